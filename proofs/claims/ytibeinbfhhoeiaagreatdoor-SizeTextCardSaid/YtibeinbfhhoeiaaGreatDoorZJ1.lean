/- The interpreter grows with its fuel: what it has brought to an end, stays. Walking code with symbolic values over the interpreter, 1: what is known of a frame and of a heap; code that stands in a row. Walking code with symbolic values, 2: an operation; types; operations without memory. Walking code with symbolic values, 3: what is read and written in a heap. Walking code with symbolic values, 3b: slices that are made, that grow; maps; channels. -/
import Derived.Test.YtibeinbfhhoeiaaGreatDoorZA6
import Derived.IntWalk
namespace Go.Proofs.YtibeinbfhhoeiaaGreatDoor.Ab
open Go
noncomputable section

structure Rec.Le (r s : Rec) : Prop where
  code : ∀ n c F D H rc, r.code n c F D H rc ≠ .none → s.code n c F D H rc = r.code n c F D H rc
  ops : ∀ n ops l F D H rc, r.ops n ops l F D H rc ≠ .none → s.ops n ops l F D H rc = r.ops n ops l F D H rc
  call : ∀ f args H, r.call f args H ≠ .none → s.call f args H = r.call f args H
  dcall : ∀ f args H m, r.dcall f args H m ≠ Option.none → s.dcall f args H m = r.dcall f args H m
  defers : ∀ fn F D m H, r.defers fn F D m H ≠ .none → s.defers fn F D m H = r.defers fn F D m H

theorem Rec.Le.refl (r : Rec) : Rec.Le r r := ⟨fun _ _ _ _ _ _ _ => rfl, fun _ _ _ _ _ _ _ _ => rfl, fun _ _ _ _ => rfl, fun _ _ _ _ _ => rfl, fun _ _ _ _ _ _ => rfl⟩
theorem Rec.Le.trans {r s t : Rec} (a : Rec.Le r s) (b : Rec.Le s t) : Rec.Le r t where
  code n c F D H rc h := by rw [b.code _ _ _ _ _ _ (by rw [a.code _ _ _ _ _ _ h]; exact h), a.code _ _ _ _ _ _ h]
  ops n ops l F D H rc h := by rw [b.ops _ _ _ _ _ _ _ (by rw [a.ops _ _ _ _ _ _ _ h]; exact h), a.ops _ _ _ _ _ _ _ h]
  call f args H h := by rw [b.call _ _ _ (by rw [a.call _ _ _ h]; exact h), a.call _ _ _ h]
  dcall f args H m h := by rw [b.dcall _ _ _ _ (by rw [a.dcall _ _ _ _ h]; exact h), a.dcall _ _ _ _ h]
  defers fn F D m H h := by rw [b.defers _ _ _ _ _ (by rw [a.defers _ _ _ _ _ h]; exact h), a.defers _ _ _ _ _ h]

theorem Rec.Le.none (r : Rec) : Rec.Le Rec.none r := ⟨fun _ _ _ _ _ _ h => absurd rfl h, fun _ _ _ _ _ _ _ h => absurd rfl h, fun _ _ _ h => absurd rfl h, fun _ _ _ _ h => absurd rfl h, fun _ _ _ _ _ h => absurd rfl h⟩

section
variable {P : Program} {r s : Rec} (h : Rec.Le r s)
include h

theorem le_soEnter (x : Option (FuncId × List Value)) (D : Dl) (H : Heap) (rc : RC) (hn : soEnter r x D H rc ≠ .none) : soEnter s x D H rc = soEnter r x D H rc := by
  unfold soEnter at hn ⊢
  split
  · rename_i f l
    simp only at hn
    rw [h.call _ _ _ (fun e => by rw [e] at hn; exact hn rfl)]
  · rfl

theorem le_soCall (ρ : Operand → Option Value) (c : Call) (ty : TypeId) (D : Dl) (H : Heap) (rc : RC) (hn : soCall P r ρ c ty D H rc ≠ .none) :
    soCall P s ρ c ty D H rc = soCall P r ρ c ty D H rc := by
  unfold soCall at hn ⊢
  split
  · rename_i fo hc
    rw [hc] at hn
    simp only at hn
    unfold soValue at hn ⊢
    split
    · rename_i f hf
      rw [hf] at hn
      simp only at hn
      split
      · rename_i l hl
        rw [hl] at hn
        exact le_soEnter h _ _ _ _ hn
      · rfl
    · rfl
  · rfl
  · rfl

theorem le_stepOp (o : Oper) (F : Fr) (D : Dl) (H : Heap) (rc : RC) (hn : stepOp P r o F D H rc ≠ .none) : stepOp P s o F D H rc = stepOp P r o F D H rc := by
  unfold stepOp at hn ⊢
  cases hop : o.op
  case call c => rw [hop] at hn; exact le_soCall h _ _ _ _ _ _ hn
  all_goals rfl

theorem le_soNext (n : Nat) (ops : Array Oper) (rest : List Oper) (dst : Option Tmp) (v : Value) (F : Fr) (D : Dl) (H : Heap) (rc : RC) (hn : soNext r n ops rest dst v F D H rc ≠ .none) :
    soNext s n ops rest dst v F D H rc = soNext r n ops rest dst v F D H rc := by
  unfold soNext at hn ⊢
  split
  · rename_i d
    simp only at hn
    split
    · rfl
    · rename_i hb
      rw [hb] at hn
      exact h.ops _ _ _ _ _ _ _ hn
  · exact h.ops _ _ _ _ _ _ _ hn

theorem le_soThen (n : Nat) (ops : Array Oper) (rest : List Oper) (dst : Option Tmp) (F : Fr) (D : Dl) (rc : RC) (x : OpR) (hn : soThen r n ops rest dst F D rc x ≠ .none) :
    soThen s n ops rest dst F D rc x = soThen r n ops rest dst F D rc x := by
  cases x with
  | none => rfl
  | val v D H rc => exact le_soNext h _ _ _ _ _ _ _ _ _ hn
  | panic v H => rfl

theorem le_stepOps (n : Nat) (ops : Array Oper) (l : List Oper) (F : Fr) (D : Dl) (H : Heap) (rc : RC) (hn : stepOps P r n ops l F D H rc ≠ .none) :
    stepOps P s n ops l F D H rc = stepOps P r n ops l F D H rc := by
  unfold stepOps at hn ⊢
  split
  · rfl
  · rename_i o rest
    simp only at hn
    split
    · rename_i hg
      rw [hg] at hn
      simp only at hn
      have e : stepOp P s o F D H rc = stepOp P r o F D H rc := le_stepOp h _ _ _ _ _ fun e => by rw [e] at hn; exact hn rfl
      rw [e]
      exact le_soThen h _ _ _ _ _ _ _ _ hn
    · rename_i hg
      rw [hg] at hn
      exact le_soNext h _ _ _ _ _ _ _ _ _ hn
    · rfl

omit h in
theorem le_dEffect (n i m : Nat) (o : Oper) (x y : Heap → Option (Value × Heap)) (hxy : ∀ H, x H ≠ none → y H = x H) (F : Fr) (H : Heap) (As : List Fresh) (next : Nat) (Es : List Was) (Rs : List Looked)
    (hn : dEffect P n i m o x F H As next Es Rs ≠ none) : dEffect P n i m o y F H As next Es Rs = dEffect P n i m o x F H As next Es Rs := by
  unfold dEffect at hn ⊢
  split
  · rename_i h1 h2
    simp only [h1, h2] at hn
    rw [hxy _ (fun e => by rw [e] at hn; exact hn rfl)]
  · rfl

theorem le_dOp (n i m : Nat) (o : Oper) (F : Fr) (H : Heap) (As : List Fresh) (next : Nat) (Es : List Was) (Rs : List Looked) (hn : dOp P r n i m o F H As next Es Rs ≠ none) :
    dOp P s n i m o F H As next Es Rs = dOp P r n i m o F H As next Es Rs := by
  unfold dOp at hn ⊢
  split
  all_goals first | rfl | skip
  rename_i hcl
  rw [hcl] at hn
  simp only at hn
  split
  · rename_i c hc
    rw [hc] at hn
    refine le_dEffect n i m o _ _ (fun H hne => ?_) F H As next Es Rs hn
    rw [le_soCall h]
    intro e
    rw [e] at hne
    exact hne rfl
  · rfl

theorem le_dStep (n : Nat) (ops : Array Oper) (i m : Nat) (o : Oper) (F : Fr) (H : Heap) (As : List Fresh) (next : Nat) (Es : List Was) (Rs : List Looked) (hn : dStep P r n ops i m o F H As next Es Rs ≠ none) :
    dStep P s n ops i m o F H As next Es Rs = dStep P r n ops i m o F H As next Es Rs := by
  unfold dStep at hn ⊢
  split
  · rename_i hg
    rw [hg] at hn
    exact le_dOp h _ _ _ _ _ _ _ _ _ _ hn
  · rfl
  · rfl

theorem le_dOps (n : Nat) (ops : Array Oper) : ∀ (l : List Oper) (ms : List Nat) (i : Nat) (d : DS), dOps P r n ops l ms i d ≠ none → dOps P s n ops l ms i d = dOps P r n ops l ms i d := by
  intro l
  induction l with
  | nil => intro ms i d _; cases ms <;> rfl
  | cons o l ih =>
    intro ms i d hn
    cases ms with
    | nil => rfl
    | cons m ms =>
      simp only [dOps] at hn ⊢
      have e : dStep P s n ops i m o d.F d.H d.As d.next d.Es d.Rs = dStep P r n ops i m o d.F d.H d.As d.next d.Es d.Rs := le_dStep h _ _ _ _ _ _ _ _ _ _ _ fun e => by rw [e] at hn; exact hn rfl
      rw [e]
      split
      · rename_i d' hd
        rw [hd] at hn
        exact ih _ _ _ hn
      · rfl

theorem le_stepDraw (n : Nat) (ops : Array Oper) (F : Fr) (D : Dl) (H : Heap) (rc : RC) (hn : stepDraw P r n ops F D H rc ≠ .none) : stepDraw P s n ops F D H rc = stepDraw P r n ops F D H rc := by
  unfold stepDraw at hn ⊢
  split
  · rename_i h1 h2
    simp only [h1, h2] at hn
    split
    · rfl
    · rename_i h3
      simp only [h3] at hn
      rw [le_dOps h _ _ _ _ _ _ (fun e => by rw [e] at hn; exact hn rfl)]
  · rfl

theorem le_scSeq (n : Nat) (b : Code) (x y : Out) (hxy : x ≠ .none → y = x) (hn : scSeq r n b x ≠ .none) : scSeq s n b y = scSeq r n b x := by
  have hx : x ≠ .none := fun e => by rw [e] at hn; exact hn rfl
  rw [hxy hx]
  cases x with
  | normal F D H rc => exact h.code _ _ _ _ _ _ hn
  | _ => rfl

theorem le_stepCode (n : Nat) (c : Code) (F : Fr) (D : Dl) (H : Heap) (rc : RC) (hn : stepCode P r n c F D H rc ≠ .none) : stepCode P s n c F D H rc = stepCode P r n c F D H rc := by
  unfold stepCode at hn ⊢
  cases c with
  | region id ops draw =>
    simp only [codeFn, scRegion] at hn ⊢
    cases draw with
    | false => exact h.ops _ _ _ _ _ _ _ hn
    | true => exact le_stepDraw h _ _ _ _ _ _ hn
  | seq a b => exact le_scSeq h _ _ _ _ (fun hx => h.code _ _ _ _ _ _ hx) hn
  | cond c a b =>
    simp only [codeFn, scCond] at hn ⊢
    split
    · rename_i hc; rw [hc] at hn; exact h.code _ _ _ _ _ _ hn
    · rename_i hc; rw [hc] at hn; exact h.code _ _ _ _ _ _ hn
    · rfl
  | block id b =>
    simp only [codeFn] at hn ⊢
    rw [h.code _ _ _ _ _ _ (fun e => by rw [e] at hn; exact hn rfl)]
  | loop b => exact le_scSeq h _ _ _ _ (fun hx => h.code _ _ _ _ _ _ hx) hn
  | _ => rfl

theorem le_scLeave (fn : Func) (x y : Out) (hxy : x ≠ .none → y = x) (hn : scLeave r fn x ≠ .none) : scLeave s fn y = scLeave r fn x := by
  have hx : x ≠ .none := fun e => by rw [e] at hn; exact hn rfl
  rw [hxy hx]
  cases x with
  | normal F D H rc => exact h.defers _ _ _ _ _ hn
  | ret F D H rc => exact h.defers _ _ _ _ _ hn
  | panic v F D H rc => exact h.defers _ _ _ _ _ hn
  | _ => rfl

theorem le_stepCall (hk : FuncId → Option (List Value → Heap → AEnd)) (f : FuncId) (args : List Value) (H : Heap) (hn : stepCall P r hk f args H ≠ .none) :
    stepCall P s hk f args H = stepCall P r hk f args H := by
  unfold stepCall at hn ⊢
  split
  · rfl
  · rename_i hk0
    rw [hk0] at hn
    simp only at hn
    split
    · rename_i fn c he
      rw [he] at hn
      simp only at hn
      split
      · rename_i hb
        rw [hb] at hn
        exact le_scLeave h _ _ _ (fun hx => h.code _ _ _ _ _ _ hx) hn
      · rfl
    · rfl

theorem le_stepDefers (fn : Func) (F : Fr) (D : Dl) (m : RC) (H : Heap) (hn : stepDefers P r fn F D m H ≠ .none) : stepDefers P s fn F D m H = stepDefers P r fn F D m H := by
  unfold stepDefers at hn ⊢
  split
  · rfl
  · rename_i f l ds
    simp only at hn
    have e : s.dcall f l H m = r.dcall f l H m := h.dcall _ _ _ _ fun e => by rw [e] at hn; exact hn rfl
    rw [e]
    split
    · rename_i H' m' hd
      rw [hd] at hn
      exact h.defers _ _ _ _ _ hn
    · rfl

theorem le_stepDcall (f : FuncId) (args : List Value) (H : Heap) (m : RC) (hn : stepDcall P r f args H m ≠ none) : stepDcall P s f args H m = stepDcall P r f args H m := by
  unfold stepDcall at hn ⊢
  split
  · rfl
  · rename_i hm
    split at hn
    · exact absurd rfl hn
    · split
      · rename_i fn c he
        rw [he] at hn
        simp only at hn
        split
        · rename_i h1 h2
          simp only [h1, h2] at hn
          rw [h.code _ _ _ _ _ _ (fun e => by rw [e] at hn; exact hn rfl)]
        · rfl
      · rfl

theorem le_stepRec (hk : FuncId → Option (List Value → Heap → AEnd)) : Rec.Le (stepRec P hk r) (stepRec P hk s) where
  code n c F D H rc hn := le_stepCode h n c F D H rc hn
  ops n ops l F D H rc hn := le_stepOps h n ops l F D H rc hn
  call f args H hn := le_stepCall h hk f args H hn
  dcall f args H m hn := le_stepDcall h f args H m hn
  defers fn F D m H hn := le_stepDefers h fn F D m H hn
end

theorem run_succ (P : Program) (hk : FuncId → Option (List Value → Heap → AEnd)) (k : Nat) : run P hk (k + 1) = stepRec P hk (run P hk k) := rfl

theorem run_le_succ (P : Program) (hk : FuncId → Option (List Value → Heap → AEnd)) (k : Nat) : Rec.Le (run P hk k) (run P hk (k + 1)) := by
  induction k with
  | zero => exact Rec.Le.none _
  | succ k ih => exact le_stepRec ih hk

theorem run_le (P : Program) (hk : FuncId → Option (List Value → Heap → AEnd)) {k j : Nat} (h : k ≤ j) : Rec.Le (run P hk k) (run P hk j) := by
  induction h with
  | refl => exact Rec.Le.refl _
  | step _ ih => exact ih.trans (run_le_succ P hk _)
end
end Go.Proofs.YtibeinbfhhoeiaaGreatDoor.Ab

namespace Go.Proofs.YtibeinbfhhoeiaaGreatDoor.Ab
open Go
noncomputable section

/- ## what is known of a frame -/
abbrev Env := List (Nat × Value)
def Env.get : Env → Nat → Option Value
  | [], _ => none
  | (a, v) :: l, n => match Nat.beq a n with
    | true => some v
    | false => Env.get l n
def Env.ev (P : Program) (E : Env) : Operand → Option Value
  | .tmp t => E.get t
  | .const v => match clo v with
    | true => some v
    | false => none
  | .func f => some (.func (.func f) #[] #[])
  | .global g => match Nat.ble P.globals.size g with
    | true => none
    | false => some (.pointer (some ⟨g, 0, none⟩))
def Agree (F : Fr) (E : Env) : Prop := ∀ t v, E.get t = some v → F.get t = some v
def EnvSub : Env → Env → Prop
  | [], _ => True
  | (t, v) :: l, E => E.get t = some v ∧ EnvSub l E
def Env.keep : List Nat → Env → Option Env
  | [], _ => some []
  | t :: l, E => match E.get t with
    | some v => match Env.keep l E with
      | some r => some ((t, v) :: r)
      | none => none
    | none => none

theorem Agree.ev {P : Program} {F : Fr} {E : Env} (h : Agree F E) {x : Operand} {v : Value} (hx : E.ev P x = some v) : F.ev P x = some v := by
  cases x with
  | tmp t => exact h t v hx
  | const u => exact hx
  | func f => exact hx
  | global g => exact hx
theorem Agree.put {F : Fr} {E : Env} (h : Agree F E) (d : Nat) (v : Value) : Agree (F.set d v) ((d, v) :: E) := by
  intro t u hu
  rw [Tr.get_set]
  simp only [Env.get] at hu
  split at hu
  · rename_i hb
    rw [if_pos (Nat.eq_of_beq_eq_true hb)]; exact hu
  · rename_i hb
    rw [if_neg (fun e => by subst e; rw [Nat.beq_refl] at hb; cases hb)]; exact h t u hu
theorem EnvSub.get : ∀ {A E : Env}, EnvSub A E → ∀ t v, A.get t = some v → E.get t = some v
  | [], _, _, t, v, h => by cases h
  | (a, u) :: l, E, hs, t, v, h => by
    simp only [Env.get] at h
    split at h
    · rename_i hb
      have := Nat.eq_of_beq_eq_true hb
      subst this
      cases h
      exact hs.1
    · exact EnvSub.get hs.2 t v h
theorem Agree.sub {F : Fr} {A E : Env} (h : Agree F E) (hs : EnvSub A E) : Agree F A := fun t v ht => h t v (hs.get t v ht)
theorem Env.keep_sub : ∀ {l : List Nat} {E A : Env}, Env.keep l E = some A → EnvSub A E
  | [], E, A, h => by simp only [Env.keep, Option.some.injEq] at h; subst h; trivial
  | t :: l, E, A, h => by
    simp only [Env.keep] at h
    split at h
    · rename_i v hv
      split at h
      · rename_i r hr
        simp only [Option.some.injEq] at h
        subst h
        exact ⟨hv, Env.keep_sub hr⟩
      · cases h
    · cases h

/- ## what is known of a heap -/
abbrev Imm := Nat → Option (List Value × TypeId)
abbrev Seg := List (Nat × AObj)
def MLe (M N : Imm) : Prop := ∀ id x, M id = some x → N id = some x
theorem MLe.refl (M : Imm) : MLe M M := fun _ _ h => h
theorem MLe.trans {M N O : Imm} (a : MLe M N) (b : MLe N O) : MLe M O := fun i x h => b i x (a i x h)

structure Sat (M : Imm) (l : Seg) (H : Heap) : Prop where
  wf : ∀ id o, H.get id = some o → id < H.next
  imm : ∀ id c t, M id = some (c, t) → ∃ k, isDead k = false ∧ H.get id = some (.row c t k)
  nd : (l.map (·.1)).Nodup
  own : ∀ p ∈ l, H.get p.1 = some p.2
  apart : ∀ p ∈ l, M p.1 = none

/-- What is not among the own things, stays. -/
structure Frm (l : Seg) (H : Heap) (l' : Seg) (H' : Heap) : Prop where
  nxt : H.next ≤ H'.next
  keep : ∀ id o, H.get id = some o → (∀ p ∈ l, p.1 ≠ id) → H'.get id = some o ∧ ∀ p ∈ l', p.1 ≠ id
theorem Frm.refl (l : Seg) (H : Heap) : Frm l H l H := ⟨Nat.le_refl _, fun _ _ h hn => ⟨h, hn⟩⟩
theorem Frm.trans {l : Seg} {H : Heap} {l1 : Seg} {H1 : Heap} {l2 : Seg} {H2 : Heap} (a : Frm l H l1 H1) (b : Frm l1 H1 l2 H2) : Frm l H l2 H2 :=
  ⟨Nat.le_trans a.nxt b.nxt, fun id o h hn => let ⟨h1, h2⟩ := a.keep id o h hn; b.keep id o h1 h2⟩

/- ## code that stands in a row -/
inductive KI where
  | code (c : Code)
  | blk (id : Nat)
  | ops (a : Array Oper) (l : List Oper)

def popTo (id : Nat) : List KI → Option (List KI)
  | [] => none
  | .blk i :: K => match Nat.beq i id with
    | true => some K
    | false => popTo id K
  | .code _ :: K => popTo id K
  | .ops _ _ :: K => popTo id K

section
variable (P : Program) (hk : FuncId → Option (List Value → Heap → AEnd)) (n : Nat)

def Itm : KI → Fr → Dl → Heap → RC → Out → Prop
  | .code c, F, D, H, rc, o => ∃ k, (run P hk k).code n c F D H rc = o
  | .ops a l, F, D, H, rc, o => ∃ k, (run P hk k).ops n a l F D H rc = o
  | .blk _, F, D, H, rc, o => o = .normal F D H rc

inductive Ex : List KI → Fr → Dl → Heap → RC → Out → Prop where
  | nil {F D H rc} : Ex [] F D H rc (.normal F D H rc)
  | go {it K F D H rc F' D' H' rc' out} : Itm P hk n it F D H rc (.normal F' D' H' rc') → Ex K F' D' H' rc' out → Ex (it :: K) F D H rc out
  | exit {it K F D H rc id F' D' H' rc' K' out} : Itm P hk n it F D H rc (.exit id F' D' H' rc') → popTo id K = some K' → Ex K' F' D' H' rc' out → Ex (it :: K) F D H rc out
  | ret {it K F D H rc F' D' H' rc'} : Itm P hk n it F D H rc (.ret F' D' H' rc') → Ex (it :: K) F D H rc (.ret F' D' H' rc')
  | panic {it K F D H rc v F' D' H' rc'} : Itm P hk n it F D H rc (.panic v F' D' H' rc') → Ex (it :: K) F D H rc (.panic v F' D' H' rc')

variable {P hk n}

theorem Ex.head {i j : KI} {K : List KI} {F F' : Fr} {D D' : Dl} {H H' : Heap} {rc rc' : RC} {out : Out}
    (h : ∀ o, o ≠ .none → Itm P hk n i F D H rc o → Itm P hk n j F' D' H' rc' o) (hx : Ex P hk n (i :: K) F D H rc out) : Ex P hk n (j :: K) F' D' H' rc' out := by
  cases hx with
  | go a b => exact .go (h _ (by simp) a) b
  | exit a b c => exact .exit (h _ (by simp) a) b c
  | ret a => exact .ret (h _ (by simp) a)
  | panic a => exact .panic (h _ (by simp) a)

/-- Fuel for two. -/
theorem fuel2 {k1 k2 : Nat} : ∃ k, k1 ≤ k ∧ k2 ≤ k := ⟨max k1 k2, Nat.le_max_left _ _, Nat.le_max_right _ _⟩

theorem code_up {k j : Nat} (h : k ≤ j) {c : Code} {F : Fr} {D : Dl} {H : Heap} {rc : RC} {o : Out} (ho : o ≠ .none) (he : (run P hk k).code n c F D H rc = o) :
    (run P hk j).code n c F D H rc = o := by
  rw [(run_le P hk h).code _ _ _ _ _ _ (by rw [he]; exact ho), he]
theorem ops_up {k j : Nat} (h : k ≤ j) {a : Array Oper} {l : List Oper} {F : Fr} {D : Dl} {H : Heap} {rc : RC} {o : Out} (ho : o ≠ .none) (he : (run P hk k).ops n a l F D H rc = o) :
    (run P hk j).ops n a l F D H rc = o := by
  rw [(run_le P hk h).ops _ _ _ _ _ _ _ (by rw [he]; exact ho), he]
theorem call_up {k j : Nat} (h : k ≤ j) {f : FuncId} {l : List Value} {H : Heap} {o : AEnd} (ho : o ≠ .none) (he : (run P hk k).call f l H = o) : (run P hk j).call f l H = o := by
  rw [(run_le P hk h).call _ _ _ (by rw [he]; exact ho), he]

theorem code_succ (k : Nat) (c : Code) (F : Fr) (D : Dl) (H : Heap) (rc : RC) : (run P hk (k + 1)).code n c F D H rc = codeFn c P (run P hk k) n F D H rc := rfl
theorem ops_succ (k : Nat) (a : Array Oper) (l : List Oper) (F : Fr) (D : Dl) (H : Heap) (rc : RC) : (run P hk (k + 1)).ops n a l F D H rc = stepOps P (run P hk k) n a l F D H rc := rfl

/-- Two codes, one behind the other, as one that does so. -/
theorem Ex.seq {x y z : Code} {K : List KI} {F : Fr} {D : Dl} {H : Heap} {rc : RC} {out : Out}
    (hz : ∀ k, codeFn z P (run P hk k) n F D H rc = scSeq (run P hk k) n y ((run P hk k).code n x F D H rc))
    (h : Ex P hk n (.code x :: .code y :: K) F D H rc out) : Ex P hk n (.code z :: K) F D H rc out := by
  have one : ∀ o, Itm P hk n (.code x) F D H rc o → (∀ F D H rc, o ≠ .normal F D H rc) → o ≠ .none → Itm P hk n (.code z) F D H rc o := by
    intro o ⟨k, he⟩ hn hne
    refine ⟨k + 1, ?_⟩
    rw [code_succ, hz, he]
    cases o with
    | normal F D H rc => exact absurd rfl (hn _ _ _ _)
    | none => exact absurd rfl hne
    | _ => rfl
  cases h with
  | go a b =>
    rename_i F1 D1 H1 rc1
    obtain ⟨k1, h1⟩ := a
    have two : ∀ o, Itm P hk n (.code y) F1 D1 H1 rc1 o → o ≠ .none → Itm P hk n (.code z) F D H rc o := by
      intro o ⟨k2, h2⟩ hne
      obtain ⟨k, l1, l2⟩ := fuel2 (k1 := k1) (k2 := k2)
      refine ⟨k + 1, ?_⟩
      rw [code_succ, hz, code_up l1 (by simp) h1]
      exact code_up l2 hne h2
    cases b with
    | go a b => exact .go (two _ a (by simp)) b
    | exit a b c => exact .exit (two _ a (by simp)) b c
    | ret a => exact .ret (two _ a (by simp))
    | panic a => exact .panic (two _ a (by simp))
  | exit a b c => exact .exit (one _ a (by simp) (by simp)) b c
  | ret a => exact .ret (one _ a (by simp) (by simp))
  | panic a => exact .panic (one _ a (by simp) (by simp))

theorem Ex.block {x : Code} {id : Nat} {K : List KI} {F : Fr} {D : Dl} {H : Heap} {rc : RC} {out : Out} (h : Ex P hk n (.code x :: .blk id :: K) F D H rc out) :
    Ex P hk n (.code (.block id x) :: K) F D H rc out := by
  have one : ∀ o o', Itm P hk n (.code x) F D H rc o → scBlock id o = o' → Itm P hk n (.code (.block id x)) F D H rc o' := by
    intro o o' ⟨k, he⟩ hne
    refine ⟨k + 1, ?_⟩
    rw [code_succ]
    simp only [codeFn]
    rw [he, hne]
  cases h with
  | go a b =>
    cases b with
    | go a' b => cases a'; exact .go (one _ _ a rfl) b
    | exit a' b c => cases a'
    | ret a' => cases a'
    | panic a' => cases a'
  | @exit _ _ _ _ _ _ i _ _ _ _ _ _ a b c =>
    simp only [popTo] at b
    split at b
    · rename_i hb
      simp only [Option.some.injEq] at b
      subst b
      refine .go (one _ _ a ?_) c
      simp only [scBlock]
      have := Nat.eq_of_beq_eq_true hb
      subst this
      rw [Nat.beq_refl]
    · rename_i hb
      refine .exit (one _ _ a ?_) b c
      simp only [scBlock]
      have : Nat.beq i id = false := by
        cases e : Nat.beq i id with
        | false => rfl
        | true => have := Nat.eq_of_beq_eq_true e; subst this; rw [Nat.beq_refl] at hb; cases hb
      rw [this]
  | ret a => exact .ret (one _ _ a rfl)
  | panic a => exact .panic (one _ _ a rfl)
end

/- ## the judgement -/
abbrev LPost := Env → Dl → Imm → List Seg → RC → RC → Prop

def OutOk (M : Imm) (l : Seg) (H : Heap) (Q : LPost) : Out → Prop
  | .normal F' D' H' rc' => ∃ E' M' L', Agree F' E' ∧ Sat M' L'.flatten H' ∧ MLe M M' ∧ Frm l H L'.flatten H' ∧ Q E' D' M' L' rc' .ret
  | .ret F' D' H' rc' => ∃ E' M' L', Agree F' E' ∧ Sat M' L'.flatten H' ∧ MLe M M' ∧ Frm l H L'.flatten H' ∧ Q E' D' M' L' rc' .ret
  | .panic v F' D' H' rc' => ∃ E' M' L', Agree F' E' ∧ Sat M' L'.flatten H' ∧ MLe M M' ∧ Frm l H L'.flatten H' ∧ Q E' D' M' L' rc' (.pan v false)
  | _ => False

theorem OutOk.after {M N : Imm} {l l1 : Seg} {H H1 : Heap} {Q : LPost} (hm : MLe M N) (hf : Frm l H l1 H1) : ∀ {o : Out}, OutOk N l1 H1 Q o → OutOk M l H Q o
  | .normal _ _ _ _, ⟨E, M', L', a, b, c, d, e⟩ => ⟨E, M', L', a, b, hm.trans c, hf.trans d, e⟩
  | .ret _ _ _ _, ⟨E, M', L', a, b, c, d, e⟩ => ⟨E, M', L', a, b, hm.trans c, hf.trans d, e⟩
  | .panic _ _ _ _ _, ⟨E, M', L', a, b, c, d, e⟩ => ⟨E, M', L', a, b, hm.trans c, hf.trans d, e⟩
  | .exit _ _ _ _ _, h => h
  | .none, h => h

def J (P : Program) (hk : FuncId → Option (List Value → Heap → AEnd)) (n : Nat) (Q : LPost) (K : List KI) (E : Env) (D : Dl) (M : Imm) (L : List Seg) (rc : RC) : Prop :=
  ∀ F H, Agree F E → Sat M L.flatten H → ∃ out, Ex P hk n K F D H rc out ∧ OutOk M L.flatten H Q out

section
variable {P : Program} {hk : FuncId → Option (List Value → Heap → AEnd)} {n : Nat} {Q : LPost} {K : List KI} {E : Env} {D : Dl} {M : Imm} {L : List Seg} {rc : RC}

theorem J.env {A : Env} (hs : EnvSub A E) (h : J P hk n Q K A D M L rc) : J P hk n Q K E D M L rc := fun F H ha hs' => h F H (ha.sub hs) hs'
theorem J.keep (l : List Nat) {A : Env} (hs : Env.keep l E = some A) (h : J P hk n Q K A D M L rc) : J P hk n Q K E D M L rc := h.env (Env.keep_sub hs)

theorem Sat.perm {l l' : Seg} {H : Heap} (h : Sat M l H) (hp : l.Perm l') : Sat M l' H where
  wf := h.wf
  imm := h.imm
  nd := (hp.map _).nodup_iff.1 h.nd
  own p hp' := h.own p (hp.mem_iff.2 hp')
  apart p hp' := h.apart p (hp.mem_iff.2 hp')
theorem Frm.perm_left {l l1 l' : Seg} {H H' : Heap} (hp : l.Perm l1) (h : Frm l1 H l' H') : Frm l H l' H' := ⟨h.nxt, fun id o ho hn => h.keep id o ho fun p hp' => hn p (hp.mem_iff.2 hp')⟩

/-- The own things in another order, or taken together otherwise. -/
theorem J.perm {L' : List Seg} (hp : L.flatten.Perm L'.flatten) (h : J P hk n Q K E D M L' rc) : J P hk n Q K E D M L rc := by
  intro F H ha hs
  obtain ⟨out, h1, h2⟩ := h F H ha (hs.perm hp)
  refine ⟨out, h1, ?_⟩
  cases out with
  | normal => obtain ⟨E, M', L', a, b, c, d, e⟩ := h2; exact ⟨E, M', L', a, b, c, Frm.perm_left hp d, e⟩
  | ret => obtain ⟨E, M', L', a, b, c, d, e⟩ := h2; exact ⟨E, M', L', a, b, c, Frm.perm_left hp d, e⟩
  | panic => obtain ⟨E, M', L', a, b, c, d, e⟩ := h2; exact ⟨E, M', L', a, b, c, Frm.perm_left hp d, e⟩
  | exit => exact h2
  | none => exact h2

theorem Sat.sub {l l' : Seg} {H : Heap} (h : Sat M l H) (hs : l'.Sublist l) : Sat M l' H where
  wf := h.wf
  imm := h.imm
  nd := (hs.map _).nodup h.nd
  own p hp' := h.own p (hs.subset hp')
  apart p hp' := h.apart p (hs.subset hp')

/-- Things that nobody asks for any more. -/
theorem J.drop {L' : List Seg} (hp : L'.flatten.Sublist L.flatten) (h : J P hk n Q K E D M L' rc) : J P hk n Q K E D M L rc := by
  intro F H ha hs
  obtain ⟨out, h1, h2⟩ := h F H ha (hs.sub hp)
  refine ⟨out, h1, ?_⟩
  have hf : ∀ {l' : Seg} {H' : Heap}, Frm L'.flatten H l' H' → Frm L.flatten H l' H' := fun d => ⟨d.nxt, fun id o ho hn => d.keep id o ho fun p hp' => hn p (hp.subset hp')⟩
  cases out with
  | normal => obtain ⟨E, M', L', a, b, c, d, e⟩ := h2; exact ⟨E, M', L', a, b, c, hf d, e⟩
  | ret => obtain ⟨E, M', L', a, b, c, d, e⟩ := h2; exact ⟨E, M', L', a, b, c, hf d, e⟩
  | panic => obtain ⟨E, M', L', a, b, c, d, e⟩ := h2; exact ⟨E, M', L', a, b, c, hf d, e⟩
  | exit => exact h2
  | none => exact h2

/-- The rows of some own things. -/
def rowOf (s : Seg) (id : Nat) : Option (List Value × TypeId) := match s with
  | [] => none
  | (i, .row c t k) :: l => match Nat.beq i id with
    | true => match isDead k with
      | true => none
      | false => some (c, t)
    | false => rowOf l id
  | (i, _) :: l => match Nat.beq i id with
    | true => none
    | false => rowOf l id

theorem rowOf_mem : ∀ {s : Seg} {id : Nat} {c : List Value} {t : TypeId}, rowOf s id = some (c, t) → ∃ k, isDead k = false ∧ (id, AObj.row c t k) ∈ s
  | [], id, c, t, h => by cases h
  | (i, .row c' t' k) :: l, id, c, t, h => by
    simp only [rowOf] at h
    split at h
    · rename_i hb
      have := Nat.eq_of_beq_eq_true hb
      subst this
      split at h
      · cases h
      · rename_i hd
        simp only [Option.some.injEq, Prod.mk.injEq] at h
        obtain ⟨rfl, rfl⟩ := h
        exact ⟨k, hd, .head _⟩
    · obtain ⟨k, h1, h2⟩ := rowOf_mem h
      exact ⟨k, h1, .tail _ h2⟩
  | (i, .map es) :: l, id, c, t, h => by
    simp only [rowOf] at h
    split at h
    · cases h
    · obtain ⟨k, h1, h2⟩ := rowOf_mem h
      exact ⟨k, h1, .tail _ h2⟩
  | (i, .chan es b) :: l, id, c, t, h => by
    simp only [rowOf] at h
    split at h
    · cases h
    · obtain ⟨k, h1, h2⟩ := rowOf_mem h
      exact ⟨k, h1, .tail _ h2⟩

def freeze (M : Imm) (s : Seg) : Imm := fun id => match rowOf s id with
  | some x => some x
  | none => M id

/-- Rows that nobody writes any more. -/
theorem J.freeze (s : Seg) {L' : List Seg} (hp : L.flatten.Perm (s ++ L'.flatten)) (h : MLe M (freeze M s) → J P hk n Q K E D (freeze M s) L' rc) : J P hk n Q K E D M L rc := by
  intro F H ha hs0
  have hs := hs0.perm hp
  have hle : MLe M (Ab.freeze M s) := by
    intro id x hx
    unfold Ab.freeze
    cases hr : rowOf s id with
    | none => exact hx
    | some y =>
      obtain ⟨c, t⟩ := y
      obtain ⟨k, _, hm⟩ := rowOf_mem hr
      have := hs.apart _ (List.mem_append_left _ hm)
      simp only at this
      rw [this] at hx
      cases hx
  have hnd : ∀ p ∈ L'.flatten, ∀ q ∈ s, q.1 ≠ p.1 := by
    have := hs.nd
    rw [List.map_append, List.nodup_append] at this
    intro p hp q hq
    exact this.2.2 _ (List.mem_map_of_mem hq) _ (List.mem_map_of_mem hp)
  obtain ⟨out, h1, h2⟩ := h hle F H ha {
    wf := hs.wf
    imm := fun id c t hx => by
      unfold Ab.freeze at hx
      cases hr : rowOf s id with
      | none => rw [hr] at hx; exact hs.imm id c t hx
      | some y =>
        rw [hr] at hx
        cases hx
        obtain ⟨k, hd, hm⟩ := rowOf_mem hr
        exact ⟨k, hd, hs.own _ (List.mem_append_left _ hm)⟩
    nd := by have := hs.nd; rw [List.map_append, List.nodup_append] at this; exact this.2.1
    own := fun p hp => hs.own p (List.mem_append_right _ hp)
    apart := fun p hp => by
      unfold Ab.freeze
      cases hr : rowOf s p.1 with
      | none => exact hs.apart p (List.mem_append_right _ hp)
      | some y =>
        obtain ⟨c, t⟩ := y
        obtain ⟨k, _, hm⟩ := rowOf_mem hr
        exact absurd rfl (hnd p hp (p.1, .row c t k) hm) }
  refine ⟨out, h1, OutOk.after hle ⟨Nat.le_refl _, fun id o ho hn => ⟨ho, fun p hp' => hn p (hp.mem_iff.2 (List.mem_append_right _ hp'))⟩⟩ h2⟩

/- ## steps of code -/
theorem J.head {i j : KI} (h : ∀ F D H rc o, Agree F E → o ≠ .none → Itm P hk n i F D H rc o → Itm P hk n j F D H rc o) (hx : J P hk n Q (i :: K) E D M L rc) : J P hk n Q (j :: K) E D M L rc := by
  intro F H ha hs
  obtain ⟨out, h1, h2⟩ := hx F H ha hs
  exact ⟨out, h1.head fun o hn => h F D H rc o ha hn, h2⟩

theorem J.blk {id : Nat} (h : J P hk n Q K E D M L rc) : J P hk n Q (.blk id :: K) E D M L rc := by
  intro F H ha hs
  obtain ⟨out, h1, h2⟩ := h F H ha hs
  exact ⟨out, .go rfl h1, h2⟩
theorem J.opsEnd {a : Array Oper} (h : J P hk n Q K E D M L rc) : J P hk n Q (.ops a [] :: K) E D M L rc := by
  intro F H ha hs
  obtain ⟨out, h1, h2⟩ := h F H ha hs
  exact ⟨out, .go ⟨1, rfl⟩ h1, h2⟩
theorem J.skip (h : J P hk n Q K E D M L rc) : J P hk n Q (.code .skip :: K) E D M L rc := by
  intro F H ha hs
  obtain ⟨out, h1, h2⟩ := h F H ha hs
  exact ⟨out, .go ⟨1, rfl⟩ h1, h2⟩
theorem J.label {l : Nat} (h : J P hk n Q K E D M L rc) : J P hk n Q (.code (.label l) :: K) E D M L rc := by
  intro F H ha hs
  obtain ⟨out, h1, h2⟩ := h F H ha hs
  exact ⟨out, .go ⟨1, rfl⟩ h1, h2⟩
theorem J.seq {x y : Code} (h : J P hk n Q (.code x :: .code y :: K) E D M L rc) : J P hk n Q (.code (.seq x y) :: K) E D M L rc := by
  intro F H ha hs
  obtain ⟨out, h1, h2⟩ := h F H ha hs
  exact ⟨out, h1.seq fun k => rfl, h2⟩
theorem J.loop {x : Code} (h : J P hk n Q (.code x :: .code (.loop x) :: K) E D M L rc) : J P hk n Q (.code (.loop x) :: K) E D M L rc := by
  intro F H ha hs
  obtain ⟨out, h1, h2⟩ := h F H ha hs
  exact ⟨out, h1.seq fun k => rfl, h2⟩
theorem J.block {id : Nat} {x : Code} (h : J P hk n Q (.code x :: .blk id :: K) E D M L rc) : J P hk n Q (.code (.block id x) :: K) E D M L rc := by
  intro F H ha hs
  obtain ⟨out, h1, h2⟩ := h F H ha hs
  exact ⟨out, h1.block, h2⟩
theorem J.exit {id : Nat} {K' : List KI} (hp : popTo id K = some K') (h : J P hk n Q K' E D M L rc) : J P hk n Q (.code (.exit id) :: K) E D M L rc := by
  intro F H ha hs
  obtain ⟨out, h1, h2⟩ := h F H ha hs
  exact ⟨out, .exit ⟨1, rfl⟩ hp h1, h2⟩
theorem J.region {id : Nat} {a : Array Oper} (h : J P hk n Q (.ops a a.toList :: K) E D M L rc) : J P hk n Q (.code (.region id a false) :: K) E D M L rc :=
  J.head (i := .ops a a.toList) (fun _ _ _ _ _ _ _ hk' => let ⟨k, hk'⟩ := hk'; ⟨k + 1, hk'⟩) h
theorem J.cond_t {c : Operand} {x y : Code} (hc : E.ev P c = some (.bool true)) (h : J P hk n Q (.code x :: K) E D M L rc) : J P hk n Q (.code (.cond c x y) :: K) E D M L rc :=
  J.head (i := .code x) (fun _ _ _ _ _ ha _ hk' => let ⟨k, hk'⟩ := hk'; ⟨k + 1, by rw [code_succ]; simp only [codeFn, scCond]; rw [ha.ev hc]; exact hk'⟩) h
theorem J.cond_f {c : Operand} {x y : Code} (hc : E.ev P c = some (.bool false)) (h : J P hk n Q (.code y :: K) E D M L rc) : J P hk n Q (.code (.cond c x y) :: K) E D M L rc :=
  J.head (i := .code y) (fun _ _ _ _ _ ha _ hk' => let ⟨k, hk'⟩ := hk'; ⟨k + 1, by rw [code_succ]; simp only [codeFn, scCond]; rw [ha.ev hc]; exact hk'⟩) h
theorem J.ret (h : Q E D M L rc .ret) : J P hk n Q (.code .ret :: K) E D M L rc :=
  fun _ _ ha hs => ⟨_, .ret ⟨1, rfl⟩, E, M, L, ha, hs, MLe.refl _, Frm.refl _ _, h⟩
theorem J.done (h : Q E D M L rc .ret) : J P hk n Q [] E D M L rc :=
  fun _ _ ha hs => ⟨_, .nil, E, M, L, ha, hs, MLe.refl _, Frm.refl _ _, h⟩

/- ## loops -/
/-- What holds at the head of each round, with a measure that each round lowers. -/
theorem J.while {x : Code} (I : Nat → Env → Dl → Imm → List Seg → RC → Prop) {m : Nat} (h0 : I m E D M L rc)
    (hr : ∀ m E D M L rc, I m E D M L rc → (∀ m' E' D' M' L' rc', m' < m → I m' E' D' M' L' rc' → J P hk n Q (.code (.loop x) :: K) E' D' M' L' rc') →
      J P hk n Q (.code x :: .code (.loop x) :: K) E D M L rc) : J P hk n Q (.code (.loop x) :: K) E D M L rc := by
  have key : ∀ m E D M L rc, I m E D M L rc → J P hk n Q (.code (.loop x) :: K) E D M L rc := by
    intro m
    induction m using Nat.strongRecOn with
    | ind m ih =>
      intro E D M L rc hi
      exact J.loop (hr m E D M L rc hi fun m' E' D' M' L' rc' hm hi' => ih m' hm E' D' M' L' rc' hi')
  exact key m E D M L rc h0
end
end
end Go.Proofs.YtibeinbfhhoeiaaGreatDoor.Ab

namespace Go.Proofs.YtibeinbfhhoeiaaGreatDoor.Ab
open Go
noncomputable section

def guardE (a : Array Oper) (E : Env) (g : Option (Nat × Bool)) : Option Bool := match g with
  | none => some true
  | some (j, want) => match nth j a.toList with
    | some o => match o.dst with
      | some d => match E.get d with
        | some (.bool b) => some (b == want)
        | some (.tuple _) => some false
        | _ => none
      | none => none
    | none => none

theorem Agree.guard {F : Fr} {E : Env} (h : Agree F E) {a : Array Oper} {g : Option (Nat × Bool)} {b : Bool} (hg : guardE a E g = some b) : guardB a F g = some b := by
  unfold guardE at hg
  unfold guardB
  split at hg
  · exact hg
  · split at hg
    · rename_i o ho
      simp only [ho]
      split at hg
      · rename_i d hd
        simp only [hd]
        split at hg
        · rename_i b' hb
          simp only [h _ _ hb]
          exact hg
        · rename_i l hb
          simp only [h _ _ hb]
          exact hg
        · cases hg
      · cases hg
    · cases hg

def dstOk (n : Nat) : Option Tmp → Bool
  | none => true
  | some d => match Nat.ble n d with
    | true => false
    | false => true
def Env.put (E : Env) (d : Option Tmp) (v : Value) : Env := match d with
  | some d => (d, v) :: E
  | none => E

section
variable {P : Program} {hk : FuncId → Option (List Value → Heap → AEnd)} {n : Nat} {Q : LPost} {K : List KI} {E : Env} {D D' : Dl} {M : Imm} {L : List Seg} {rc rc' : RC} {a : Array Oper} {o : Oper} {rest : List Oper}

theorem itm_op {k : Nat} {F : Fr} {H : Heap} {v : Value} {H' : Heap} (hg : guardB a F o.guard = some true) (hd : dstOk n o.dst = true) (hv : stepOp P (run P hk k) o F D H rc = .val v D' H' rc') (out : Out)
    (hne : out ≠ .none) (h : Itm P hk n (.ops a rest) (F.put o.dst v) D' H' rc' out) : Itm P hk n (.ops a (o :: rest)) F D H rc out := by
  obtain ⟨j, hj⟩ := h
  obtain ⟨m, l1, l2⟩ := fuel2 (k1 := k) (k2 := j)
  refine ⟨m + 1, ?_⟩
  have hv' : stepOp P (run P hk m) o F D H rc = .val v D' H' rc' := by rw [le_stepOp (run_le P hk l1) _ _ _ _ _ (by rw [hv]; simp), hv]
  rw [ops_succ]
  unfold stepOps
  simp only [hg, hv', soThen, soNext]
  cases hdst : o.dst with
  | none => rw [hdst] at hj; exact ops_up l2 hne hj
  | some d =>
    rw [hdst] at hj hd
    simp only [dstOk] at hd
    split at hd
    · cases hd
    · rename_i hb
      simp only [hb]
      exact ops_up l2 hne hj

/-- An operation. -/
theorem J.op (R : Value → List Seg → Prop) (hg : guardE a E o.guard = some true) (hd : dstOk n o.dst = true)
    (h : ∀ F H, Agree F E → Sat M L.flatten H → ∃ k v H' L', stepOp P (run P hk k) o F D H rc = .val v D' H' rc' ∧ Sat M L'.flatten H' ∧ Frm L.flatten H L'.flatten H' ∧ R v L')
    (hk' : ∀ v L', R v L' → J P hk n Q (.ops a rest :: K) (E.put o.dst v) D' M L' rc') : J P hk n Q (.ops a (o :: rest) :: K) E D M L rc := by
  intro F H ha hs
  obtain ⟨k, v, H', L', hv, hs', hf, hr⟩ := h F H ha hs
  have ha' : Agree (F.put o.dst v) (E.put o.dst v) := by
    cases o.dst with
    | none => exact ha
    | some d => exact ha.put d v
  obtain ⟨out, h1, h2⟩ := hk' v L' hr _ H' ha' hs'
  exact ⟨out, h1.head fun o hne => itm_op (ha.guard hg) hd hv o hne, h2.after (MLe.refl _) hf⟩

/-- An operation that leaves the heap alone. -/
theorem J.pure {v : Value} (hg : guardE a E o.guard = some true) (hd : dstOk n o.dst = true)
    (h : ∀ F H r, Agree F E → Sat M L.flatten H → stepOp P r o F D H rc = .val v D H rc) (hk' : J P hk n Q (.ops a rest :: K) (E.put o.dst v) D M L rc) :
    J P hk n Q (.ops a (o :: rest) :: K) E D M L rc := by
  refine J.op (fun u L' => u = v ∧ L' = L) hg hd (fun F H ha hs => ⟨0, v, H, L, h F H _ ha hs, hs, Frm.refl _ _, rfl, rfl⟩) ?_
  rintro u L' ⟨rfl, rfl⟩
  exact hk'

/-- An operation whose turn is not taken. -/
theorem J.pass (hg : guardE a E o.guard = some false) (hd : dstOk n o.dst = true) (hk' : J P hk n Q (.ops a rest :: K) (E.put o.dst undef) D M L rc) :
    J P hk n Q (.ops a (o :: rest) :: K) E D M L rc := by
  intro F H ha hs
  have ha' : Agree (F.put o.dst undef) (E.put o.dst undef) := by
    cases o.dst with
    | none => exact ha
    | some d => exact ha.put d undef
  obtain ⟨out, h1, h2⟩ := hk' _ H ha' hs
  refine ⟨out, h1.head (i := .ops a rest) fun x hne hj => ?_, h2⟩
  obtain ⟨j, hj⟩ := hj
  refine ⟨j + 1, ?_⟩
  rw [ops_succ]
  unfold stepOps
  simp only [ha.guard hg, soNext]
  cases hdst : o.dst with
  | none => rw [hdst] at hj; exact hj
  | some d =>
    rw [hdst] at hj hd
    simp only [dstOk] at hd
    split at hd
    · cases hd
    · rename_i hb
      simp only [hb]
      exact hj

/-- A panic. -/
theorem J.panicOp {v : Value} (hg : guardE a E o.guard = some true) (h : ∀ F H r, Agree F E → Sat M L.flatten H → stepOp P r o F D H rc = .panic v H) (hq : Q E D M L rc (.pan v false)) :
    J P hk n Q (.ops a (o :: rest) :: K) E D M L rc := by
  intro F H ha hs
  refine ⟨_, .panic (v := v) (F' := F) (D' := D) (H' := H) (rc' := rc) ⟨1, ?_⟩, E, M, L, ha, hs, MLe.refl _, Frm.refl _ _, hq⟩
  rw [ops_succ]
  unfold stepOps
  simp only [ha.guard hg, h F H _ ha hs, soThen]
end

/- ## types -/
inductive TK where
  | int (k : IntKind)
  | bool
  | str
  | slice (e : Nat)
  | struct (fs : List (Nat × Nat))
  | ptr (e : Nat)
  | map (k e : Nat)
  | chan (e : Nat)
  | array (n e : Nat)
  | func
  | iface
  | other
structure TI where
  k : TK
  size : Nat
  bytes : Nat
  agg : Bool
  zero : List Value
abbrev TT := List (Nat × TI)
def TT.get : TT → Nat → Option TI
  | [], _ => none
  | (a, v) :: l, n => match Nat.beq a n with
    | true => some v
    | false => TT.get l n

def fieldsB : List Field → List (Nat × Nat) → Bool
  | [], [] => true
  | f :: l, (o, t) :: m => Nat.beq f.offset o && Nat.beq f.type t && !(f.name == "_") && fieldsB l m
  | _, _ => false
def tkB : TypeDesc → TK → Bool
  | .int a, .int b => decide (a = b)
  | .bool, .bool => true
  | .string, .str => true
  | .slice a, .slice b => Nat.beq a b
  | .struct fs, .struct l => fieldsB fs.toList l
  | .pointer a, .ptr b => Nat.beq a b
  | .map a b, .map c d => Nat.beq a c && Nat.beq b d
  | .chan _ a, .chan b => Nat.beq a b
  | .array a b, .array c d => Nat.beq a c && Nat.beq b d
  | .func _ _ _, .func => true
  | .interface _, .iface => true
  | _, .other => true
  | _, _ => false
def optB (x : Option Nat) (y : Nat) : Bool := match x with
  | some a => Nat.beq a y
  | none => false
def tiB (P : Program) (t : Nat) (i : TI) : Bool :=
  (match xunder P t with | some d => tkB d i.k | none => false) && optB (xsize P t) i.size && optB (xbytes P t) i.bytes &&
  (match xagg P t with | some b => b == i.agg | none => false) && Nat.beq i.zero.length i.size && (match i.k with | .struct _ => !P.stoodInHeld t && !P.eqGuardType P.depth t | _ => true) &&
  (match xzero P t with | some z => veq z (match i.agg, i.zero with | false, [v] => v | _, l => .agg ⟨l⟩) && veqL z.cells.toList i.zero && flatL i.zero | none => false)
def ttB (P : Program) : TT → Bool
  | [] => true
  | (t, i) :: l => match tiB P t i with
    | true => ttB P l
    | false => false

structure TIOk (P : Program) (t : Nat) (i : TI) : Prop where
  under : ∃ d, xunder P t = some d ∧ tkB d i.k = true
  size : xsize P t = some i.size
  bytes : xbytes P t = some i.bytes
  agg : xagg P t = some i.agg
  zl : i.zero.length = i.size
  zero : ∃ z, xzero P t = some z ∧ z = (match i.agg, i.zero with | false, [v] => v | _, l => .agg ⟨l⟩) ∧ z.cells.toList = i.zero
  fl : flatL i.zero = true
  eqs : ∀ l, i.k = .struct l → P.stoodInHeld t = false ∧ P.eqGuardType P.depth t = false

theorem tiB_ok {P : Program} {t : Nat} {i : TI} (h : tiB P t i = true) : TIOk P t i := by
  unfold tiB at h
  simp only [Bool.and_eq_true] at h
  obtain ⟨⟨⟨⟨⟨⟨h1, h2⟩, h3⟩, h4⟩, h5⟩, h6⟩, h7⟩ := h
  have ob : ∀ {x : Option Nat} {y : Nat}, optB x y = true → x = some y := by
    intro x y h
    cases x with
    | none => cases h
    | some a => rw [Nat.eq_of_beq_eq_true h]
  have h7' : ∃ z, xzero P t = some z ∧ z = (match i.agg, i.zero with | false, [v] => v | _, l => .agg ⟨l⟩) ∧ z.cells.toList = i.zero ∧ flatL i.zero = true := by
    split at h7
    · rename_i z hz
      simp only [Bool.and_eq_true] at h7
      exact ⟨z, hz, veq_eq _ _ h7.1.1, veqL_eq _ _ h7.1.2, h7.2⟩
    · cases h7
  obtain ⟨z, z1, z2, z3, z4⟩ := h7'
  refine ⟨?_, ob h2, ob h3, ?_, Nat.eq_of_beq_eq_true h5, ⟨z, z1, z2, z3⟩, z4, ?_⟩
  · split at h1
    · rename_i d hd; exact ⟨d, hd, h1⟩
    · cases h1
  · split at h4
    · rename_i b hb; rw [hb, eq_of_beq h4]
    · cases h4
  · intro l hl
    rw [hl] at h6
    simpa using h6

theorem ttB_ok {P : Program} : ∀ {T : TT}, ttB P T = true → ∀ t i, T.get t = some i → TIOk P t i
  | [], _, t, i, h => by cases h
  | (a, v) :: l, hb, t, i, h => by
    simp only [ttB] at hb
    split at hb
    · rename_i h1
      simp only [TT.get] at h
      split at h
      · rename_i he
        have := Nat.eq_of_beq_eq_true he
        subst this
        cases h
        exact tiB_ok h1
      · exact ttB_ok hb t i h
    · cases hb

def TOk (P : Program) (T : TT) : Prop := ∀ t i, T.get t = some i → TIOk P t i

section
variable {P : Program} {t : Nat} {i : TI} (h : TIOk P t i)
include h
theorem TIOk.slice {e : Nat} (hk : i.k = .slice e) : xunder P t = some (.slice e) := by
  obtain ⟨d, hd, hb⟩ := h.under
  rw [hk] at hb
  cases d <;> simp [tkB] at hb
  subst hb; exact hd
theorem TIOk.int {k : IntKind} (hk : i.k = .int k) : xunder P t = some (.int k) := by
  obtain ⟨d, hd, hb⟩ := h.under
  rw [hk] at hb
  cases d <;> simp [tkB] at hb
  subst hb; exact hd
theorem TIOk.str (hk : i.k = .str) : xunder P t = some .string := by
  obtain ⟨d, hd, hb⟩ := h.under
  rw [hk] at hb
  cases d <;> simp [tkB] at hb
  exact hd
theorem TIOk.bool (hk : i.k = .bool) : xunder P t = some .bool := by
  obtain ⟨d, hd, hb⟩ := h.under
  rw [hk] at hb
  cases d <;> simp [tkB] at hb
  exact hd
theorem TIOk.ptr {e : Nat} (hk : i.k = .ptr e) : xunder P t = some (.pointer e) := by
  obtain ⟨d, hd, hb⟩ := h.under
  rw [hk] at hb
  cases d <;> simp [tkB] at hb
  subst hb; exact hd
theorem TIOk.map {k e : Nat} (hk : i.k = .map k e) : xunder P t = some (.map k e) := by
  obtain ⟨d, hd, hb⟩ := h.under
  rw [hk] at hb
  cases d <;> simp [tkB] at hb
  obtain ⟨rfl, rfl⟩ := hb; exact hd
theorem TIOk.chan {e : Nat} (hk : i.k = .chan e) : ∃ dir, xunder P t = some (.chan dir e) := by
  obtain ⟨d, hd, hb⟩ := h.under
  rw [hk] at hb
  cases d <;> simp [tkB] at hb
  subst hb; exact ⟨_, hd⟩
theorem TIOk.array {m e : Nat} (hk : i.k = .array m e) : xunder P t = some (.array m e) := by
  obtain ⟨d, hd, hb⟩ := h.under
  rw [hk] at hb
  cases d <;> simp [tkB] at hb
  obtain ⟨rfl, rfl⟩ := hb; exact hd
theorem TIOk.func (hk : i.k = .func) : ∃ a b c, xunder P t = some (.func a b c) := by
  obtain ⟨d, hd, hb⟩ := h.under
  rw [hk] at hb
  cases d <;> simp [tkB] at hb
  exact ⟨_, _, _, hd⟩
theorem TIOk.iface (hk : i.k = .iface) : ∃ a, xunder P t = some (.interface a) := by
  obtain ⟨d, hd, hb⟩ := h.under
  rw [hk] at hb
  cases d <;> simp [tkB] at hb
  exact ⟨_, hd⟩
theorem TIOk.struct {l : List (Nat × Nat)} (hk : i.k = .struct l) : ∃ fs, xunder P t = some (.struct fs) ∧ fs.toList.map (fun f => (f.offset, f.type)) = l ∧ ∀ f ∈ fs.toList, f.name ≠ "_" := by
  obtain ⟨d, hd, hb⟩ := h.under
  rw [hk] at hb
  cases d <;> simp [tkB] at hb
  rename_i fs
  refine ⟨fs, hd, ?_⟩
  generalize fs.toList = fl at hb
  clear hd hk
  induction fl generalizing l with
  | nil => cases l <;> simp [fieldsB] at hb ⊢
  | cons f fl ih =>
    cases l with
    | nil => simp [fieldsB] at hb
    | cons p l =>
      obtain ⟨o, ft⟩ := p
      simp [fieldsB] at hb
      obtain ⟨e1, e2⟩ := ih hb.2
      refine ⟨by simp [hb.1.1.1, hb.1.1.2, e1], fun x hx => ?_⟩
      cases hx with
      | head => exact hb.1.2
      | tail _ hx => exact e2 x hx
/-- It is no interface's type. -/
theorem TIOk.notIface (hk : ∀ x, i.k = x → x ≠ .iface ∧ x ≠ .other) : ∃ d, xunder P t = some d ∧ ∀ a, d ≠ .interface a := by
  obtain ⟨d, hd, hb⟩ := h.under
  refine ⟨d, hd, fun a e => ?_⟩
  subst e
  have := hk _ rfl
  cases he : i.k <;> rw [he] at hb this <;> simp [tkB] at hb this
end

def mkV (agg : Bool) (l : List Value) : Option Value := match agg, l with
  | true, l => some (.agg ⟨l⟩)
  | false, [v] => some v
  | false, _ => none
def cellsV (agg : Bool) (v : Value) : Option (List Value) := match agg, v with
  | true, .agg ⟨l⟩ => some l
  | true, _ => none
  | false, v => match flat v with
    | true => some [v]
    | false => none
theorem cellsV_cells {agg : Bool} {v : Value} {l : List Value} (h : cellsV agg v = some l) : v.cells = ⟨l⟩ := by
  unfold cellsV at h
  split at h
  · cases h; rfl
  · cases h
  · split at h
    · rename_i hf
      cases h
      cases v <;> first | rfl | cases hf
    · cases h

/- ## fields, parts, tuples -/
def yfield (T : TT) (t : Nat) (v : Value) (i : Nat) : Option Value := match TT.get T t, v with
  | some ⟨.struct fs, _, _, _, _⟩, .agg ⟨cs⟩ => match nth i fs with
    | some (off, ft) => match TT.get T ft with
      | some fi => match takeX fi.size (cs.drop off) with
        | some l => mkV fi.agg l
        | none => none
      | none => none
    | none => none
  | _, _ => none

theorem takeX_extract {α : Type} {n off : Nat} {cs r : List α} (h : takeX n (cs.drop off) = some r) : r = (cs.drop off).take n ∧ r.length = n := by
  obtain ⟨h1, h2⟩ := takeX_spec n _ r h
  refine ⟨?_, h1⟩
  apply List.ext_getElem?
  intro j
  rw [List.getElem?_take]
  by_cases hj : j < n
  · rw [if_pos hj, h2 j hj]
  · rw [if_neg hj, List.getElem?_eq_none (by omega)]

theorem xpart_of {P : Program} {T : TT} (hT : TOk P T) {ft off : Nat} {fi : TI} {cs l : List Value} {v : Value} (hf : T.get ft = some fi) (hl : takeX fi.size (cs.drop off) = some l) (hv : mkV fi.agg l = some v) :
    xpart P ft ⟨cs⟩ off = some v := by
  have hi := hT ft fi hf
  obtain ⟨hl1, hl2⟩ := takeX_extract hl
  unfold xpart
  rw [hi.agg]
  cases ha : fi.agg with
  | true =>
    rw [ha] at hv
    simp only [mkV, Option.some.injEq] at hv
    subst hv
    simp only [hi.size]
    congr 2
    apply Array.toList_inj.1
    rw [hl1]
    simp
  | false =>
    rw [ha] at hv
    simp only
    unfold mkV at hv
    split at hv
    · rename_i h; cases h
    · rename_i u h
      simp only [Option.some.injEq] at hv
      subst hv
      have : (cs.drop off)[0]? = some u := by
        rw [List.length_singleton] at hl2
        have h0 := (takeX_spec _ _ _ hl).2 0 (by omega)
        rw [h0]; rfl
      simpa using this
    · cases hv

theorem yfield_ok {P : Program} {T : TT} (hT : TOk P T) {t i : Nat} {x v : Value} (h : yfield T t x i = some v) : xfield P t x i = some v := by
  unfold yfield at h
  split at h
  · rename_i fs sz by' ag z cs ht
    obtain ⟨fl, hu, hm, _⟩ := (hT t _ ht).struct rfl
    split at h
    · rename_i off ft hn
      rw [nth_eq] at hn
      split at h
      · rename_i fi hfi
        split at h
        · rename_i l hl
          unfold xfield
          rw [hu]
          simp only
          have hfl : ∃ f, fl[i]? = some f ∧ f.offset = off ∧ f.type = ft := by
            rw [← hm, List.getElem?_map] at hn
            cases hfx : fl.toList[i]? with
            | none => rw [hfx] at hn; cases hn
            | some f =>
              rw [hfx] at hn
              simp only [Option.map_some, Option.some.injEq, Prod.mk.injEq] at hn
              exact ⟨f, by simpa using hfx, hn.1, hn.2⟩
          obtain ⟨f, hf1, hf2, hf3⟩ := hfl
          rw [hf1]
          simp only [hf2, hf3]
          exact xpart_of hT hfi hl h
        · cases h
      · cases h
    · cases h
  · cases h

def yfieldAddr (T : TT) (t : Nat) (a : Addr) (i : Nat) : Option Addr := match TT.get T t with
  | some ⟨.struct fs, _, _, _, _⟩ => match nth i fs with
    | some (off, ft) => match TT.get T ft with
      | some fi => match Nat.ble 1 fi.size, a with
        | true, ⟨b, o, none⟩ => some ⟨b, Nat.add o off, none⟩
        | _, _ => none
      | none => none
    | none => none
  | _ => none

/-- Where a field lies in its struct. -/
def yfieldOff (T : TT) (t : Nat) (i : Nat) : Option Nat := match TT.get T t with
  | some ⟨.struct fs, _, _, _, _⟩ => match nth i fs with
    | some (off, ft) => match TT.get T ft with
      | some fi => match Nat.ble 1 fi.size with
        | true => some off
        | false => none
      | none => none
    | none => none
  | _ => none
theorem yfieldOff_ok {P : Program} {T : TT} (hT : TOk P T) {t i off : Nat} (h : yfieldOff T t i = some off) (a : Addr) : xfieldAddr P t (.pointer (some a)) i = some (.pointer (some (a.add off))) := by
  unfold yfieldOff at h
  split at h
  · rename_i fs sz by' ag z ht
    obtain ⟨fl, hu, hm, _⟩ := (hT t _ ht).struct rfl
    split at h
    · rename_i off ft hn
      rw [nth_eq] at hn
      split at h
      · rename_i fi hfi
        split at h
        · rename_i hpos
          simp only [Option.some.injEq] at h
          subst h
          have hfl : ∃ f, fl[i]? = some f ∧ f.offset = off ∧ f.type = ft := by
            rw [← hm, List.getElem?_map] at hn
            cases hfx : fl.toList[i]? with
            | none => rw [hfx] at hn; cases hn
            | some f =>
              rw [hfx] at hn
              simp only [Option.map_some, Option.some.injEq, Prod.mk.injEq] at hn
              exact ⟨f, by simpa using hfx, hn.1, hn.2⟩
          obtain ⟨f, hf1, hf2, hf3⟩ := hfl
          have hi := hT ft fi hfi
          unfold xfieldAddr
          rw [hu]
          simp only [hf1, hf2, hf3, hi.size]
          split
          · rename_i e; have := Nat.le_of_ble_eq_true hpos; simp only [Option.some.injEq] at e; omega
          · rfl
          · rename_i e; cases e
        · cases h
      · cases h
    · cases h
  · cases h
theorem yfieldAddr_ok {P : Program} {T : TT} (hT : TOk P T) {t i : Nat} {a b : Addr} (h : yfieldAddr T t a i = some b) : xfieldAddr P t (.pointer (some a)) i = some (.pointer (some b)) := by
  unfold yfieldAddr at h
  split at h
  · rename_i fs sz by' ag z ht
    obtain ⟨fl, hu, hm, _⟩ := (hT t _ ht).struct rfl
    split at h
    · rename_i off ft hn
      rw [nth_eq] at hn
      split at h
      · rename_i fi hfi
        split at h
        · rename_i b' o' hpos
          simp only [Option.some.injEq] at h
          subst h
          have hfl : ∃ f, fl[i]? = some f ∧ f.offset = off ∧ f.type = ft := by
            rw [← hm, List.getElem?_map] at hn
            cases hfx : fl.toList[i]? with
            | none => rw [hfx] at hn; cases hn
            | some f =>
              rw [hfx] at hn
              simp only [Option.map_some, Option.some.injEq, Prod.mk.injEq] at hn
              exact ⟨f, by simpa using hfx, hn.1, hn.2⟩
          obtain ⟨f, hf1, hf2, hf3⟩ := hfl
          have hi := hT ft fi hfi
          unfold xfieldAddr
          rw [hu]
          simp only [hf1, hf2, hf3, hi.size]
          split
          · rename_i e; have := Nat.le_of_ble_eq_true hpos; simp only [Option.some.injEq] at e; omega
          · simp only [Option.some.injEq, Value.pointer.injEq]
            rw [add_off _ _ rfl]
            rfl
          · rename_i e; cases e
        · cases h
      · cases h
    · cases h
  · cases h

/-- Parts laid over cells. -/
def yfill (T : TT) (fs : List (Nat × Nat)) : List (Nat × Value) → List Value → Option (List Value)
  | [], cells => some cells
  | (i, v) :: l, cells => match nth i fs with
    | some (off, ft) => match TT.get T ft with
      | some fi => match cellsV fi.agg v with
        | some vs => match Nat.beq vs.length fi.size, putX off cells vs with
          | true, some r => yfill T fs l r
          | _, _ => none
        | none => none
      | none => none
    | none => none
def ybuild (T : TT) (t : Nat) (parts : List (Nat × Value)) : Option Value := match TT.get T t with
  | some ⟨.struct fs, _, _, true, z⟩ => match yfill T fs parts z with
    | some l => some (.agg ⟨l⟩)
    | none => none
  | _ => none

theorem fold_put (vs : List Value) : ∀ (k off : Nat) (cells r : List Value), putX (off + k) cells vs = some r →
    (vs.zipIdx k).foldl (fun (x : Array Value) (p : Value × Nat) => x.setIfInBounds (off + p.2) p.1) (⟨cells⟩ : Array Value) = ⟨r⟩ := by
  induction vs with
  | nil =>
    intro k off cells r h
    have hput : ∀ (m : Nat) (c r : List Value), putX m c [] = some r → c = r := by
      intro m
      induction m with
      | zero => intro c r h; cases c <;> simpa [putX] using h
      | succ m ih =>
        intro c r h
        cases c with
        | nil => simp [putX] at h
        | cons x c =>
          simp only [putX] at h
          split at h
          · rename_i r' hr
            simp only [Option.some.injEq] at h
            subst h
            rw [ih c r' hr]
          · cases h
    simp [hput _ _ _ h]
  | cons v vs ih =>
    intro k off cells r h
    simp only [List.zipIdx_cons, List.foldl_cons]
    obtain ⟨h1, h2⟩ : off + k < cells.length ∧ putX (off + (k + 1)) (cells.set (off + k) v) vs = some r := by
      have gen : ∀ (m : Nat) (c : List Value) (r : List Value), putX m c (v :: vs) = some r → m < c.length ∧ putX (m + 1) (c.set m v) vs = some r := by
        intro m
        induction m with
        | zero =>
          intro c r h
          cases c with
          | nil => simp [putX] at h
          | cons x c =>
            simp only [putX] at h
            refine ⟨by simp, ?_⟩
            simpa [putX] using h
        | succ m ihm =>
          intro c r h
          cases c with
          | nil => simp [putX] at h
          | cons x c =>
            simp only [putX] at h
            split at h
            · rename_i r' hr
              simp only [Option.some.injEq] at h
              subst h
              obtain ⟨a, b⟩ := ihm c r' hr
              refine ⟨by simp; omega, ?_⟩
              simp only [List.set_cons_succ, putX, b]
            · cases h
      exact gen _ _ _ h
    have e : (⟨cells⟩ : Array Value).setIfInBounds (off + k) v = ⟨cells.set (off + k) v⟩ := by
      apply Array.toList_inj.1
      simp
    rw [e]
    exact ih (k + 1) off _ r h2

theorem putX_len : ∀ (off : Nat) (cells vs r : List Value), putX off cells vs = some r → off + vs.length ≤ cells.length := by
  intro off
  induction off with
  | zero =>
    intro cells vs
    induction vs generalizing cells with
    | nil => intro r h; simp
    | cons v vs ih =>
      intro r h
      cases cells with
      | nil => simp [putX] at h
      | cons c cells =>
        simp only [putX] at h
        split at h
        · rename_i r' hr; have := ih cells r' hr; simp at this ⊢; omega
        · cases h
  | succ off ih =>
    intro cells vs r h
    cases cells with
    | nil => simp [putX] at h
    | cons c cells =>
      simp only [putX] at h
      split at h
      · rename_i r' hr; have := ih cells vs r' hr; simp; omega
      · cases h

theorem xplaces_of {P : Program} {T : TT} (hT : TOk P T) : ∀ (fl : List Field) (pl : List (Nat × Nat)), xplaces P fl = some pl → ∀ (i off ft : Nat) (fi : TI), (fl.map fun f => (f.offset, f.type))[i]? = some (off, ft) → T.get ft = some fi → pl[i]? = some (off, fi.size) := by
  intro fl
  induction fl with
  | nil => intro pl _ i off ft fi h; simp at h
  | cons f fl ih =>
    intro pl h i off ft fi hi hf
    simp only [xplaces] at h
    split at h
    · rename_i m hm
      split at h
      · rename_i pl' hpl
        simp only [Option.some.injEq] at h
        subst h
        cases i with
        | zero =>
          simp only [List.map_cons, List.getElem?_cons_zero, Option.some.injEq, Prod.mk.injEq] at hi
          obtain ⟨rfl, rfl⟩ := hi
          have := (hT _ _ hf).size
          rw [hm] at this
          cases this
          rfl
        | succ i =>
          simp only [List.map_cons, List.getElem?_cons_succ] at hi ⊢
          exact ih _ hpl i off ft fi hi hf
      · cases h
    · cases h

theorem yfill_ok {P : Program} {T : TT} (hT : TOk P T) {fl : List Field} {fs pl : List (Nat × Nat)} (hm : fl.map (fun f => (f.offset, f.type)) = fs) (hp : xplaces P fl = some pl) :
    ∀ (parts : List (Nat × Value)) (cells r : List Value), yfill T fs parts cells = some r → Instr.fill (fun i => pl[i]?) ⟨cells⟩ parts = some ⟨r⟩ := by
  intro parts
  induction parts with
  | nil => intro cells r h; simp only [yfill, Option.some.injEq] at h; subst h; rfl
  | cons p parts ih =>
    obtain ⟨i, v⟩ := p
    intro cells r h
    simp only [yfill] at h
    split at h
    · rename_i off ft hn
      rw [nth_eq] at hn
      split at h
      · rename_i fi hfi
        split at h
        · rename_i vs hvs
          split at h
          · rename_i r' hb hput
            have hlen := Nat.eq_of_beq_eq_true hb
            have hpl := xplaces_of hT fl pl hp i off ft fi (by rw [hm]; exact hn) hfi
            have hc := cellsV_cells hvs
            simp only [Instr.fill, hpl, hc]
            have hle := putX_len _ _ _ _ hput
            rw [if_neg (by simp [hlen]; omega)]
            rw [← ih r' r h]
            congr 1
            rw [← Array.foldl_toList]
            simp only [Array.toList_zipIdx]
            exact fold_put vs 0 off cells r' hput
          · cases h
        · cases h
      · cases h
    · cases h

theorem ybuild_ok {P : Program} {T : TT} (hT : TOk P T) {t : Nat} {parts : List (Nat × Value)} {v : Value} (hpl : ∀ fl, xunder P t = some (.struct fl) → (xplaces P fl.toList).isSome) (h : ybuild T t parts = some v) : xfill P t parts = some v := by
  unfold ybuild at h
  split at h
  · rename_i fs sz by' z ht
    have hi := hT t _ ht
    obtain ⟨fl, hu, hm, _⟩ := hi.struct rfl
    split at h
    · rename_i l hl
      simp only [Option.some.injEq] at h
      subst h
      unfold xfill
      obtain ⟨z', hz, he, _⟩ := hi.zero
      simp only at he
      have := hpl fl hu
      cases hp : xplaces P fl.toList with
      | none => rw [hp] at this; cases this
      | some pl =>
        rw [hz]
        simp only [hu, hp, he]
        have := yfill_ok hT hm hp parts z l hl
        simp only [Value.cells]
        rw [this]
        rfl
    · cases h
  · cases h

def placesB (T : TT) : List (Nat × Nat) → Bool
  | [] => true
  | (_, t) :: l => match TT.get T t with
    | some _ => placesB T l
    | none => false
theorem placesB_ok {P : Program} {T : TT} (hT : TOk P T) : ∀ (fl : List Field) (fs : List (Nat × Nat)), fl.map (fun f => (f.offset, f.type)) = fs → placesB T fs = true → (xplaces P fl).isSome := by
  intro fl
  induction fl with
  | nil => intro fs _ _; rfl
  | cons f fl ih =>
    intro fs h hb
    subst h
    simp only [List.map_cons, placesB] at hb
    split at hb
    · rename_i i hi
      simp only [xplaces, (hT _ _ hi).size]
      have := ih _ rfl hb
      cases hx : xplaces P fl with
      | none => rw [hx] at this; cases this
      | some l => rfl
    · cases hb
def ybuildT (T : TT) (t : Nat) (parts : List (Nat × Value)) : Option Value := match TT.get T t with
  | some ⟨.struct fs, _, _, _, _⟩ => match placesB T fs with
    | true => ybuild T t parts
    | false => none
  | _ => none
theorem ybuildT_ok {P : Program} {T : TT} (hT : TOk P T) {t : Nat} {parts : List (Nat × Value)} {v : Value} (h : ybuildT T t parts = some v) : xfill P t parts = some v := by
  unfold ybuildT at h
  split at h
  · rename_i fs a b c d ht
    split at h
    · rename_i hb
      obtain ⟨fl, hu, hm, _⟩ := (hT t _ ht).struct rfl
      refine ybuild_ok hT (fun fl' hfl => ?_) h
      rw [hu] at hfl
      cases hfl
      exact placesB_ok hT _ _ hm hb
    · cases h
  · cases h
end
end Go.Proofs.YtibeinbfhhoeiaaGreatDoor.Ab

namespace Go.Proofs.YtibeinbfhhoeiaaGreatDoor.Ab
open Go
noncomputable section

/- ## own things -/
inductive At : List Seg → Nat → AObj → Prop where
  | here {L id o} : At ([(id, o)] :: L) id o
  | there {L s id o} : At L id o → At (s :: L) id o
inductive Upd : List Seg → Nat → AObj → AObj → List Seg → Prop where
  | here {L id o o'} : Upd ([(id, o)] :: L) id o o' ([(id, o')] :: L)
  | there {L L' s id o o'} : Upd L id o o' L' → Upd (s :: L) id o o' (s :: L')
/-- A group of own things, the others, and how it is put back. -/
inductive Pick : List Seg → Seg → List Seg → Prop where
  | here {L s} : Pick (s :: L) s L
  | there {L L' s x} : Pick L s L' → Pick (x :: L) s (x :: L')
inductive Repl : List Seg → Seg → Seg → List Seg → Prop where
  | here {L s s'} : Repl (s :: L) s s' (s' :: L)
  | there {L L' s s' x} : Repl L s s' L' → Repl (x :: L) s s' (x :: L')

theorem At.mem {L : List Seg} {id : Nat} {o : AObj} (h : At L id o) : (id, o) ∈ L.flatten := by
  induction h with
  | here => simp
  | there _ ih => simp [ih]
theorem Upd.at {L L' : List Seg} {id : Nat} {o o' : AObj} (h : Upd L id o o' L') : At L id o := by
  induction h with
  | here => exact .here
  | there _ ih => exact .there ih
theorem Upd.split {L L' : List Seg} {id : Nat} {o o' : AObj} (h : Upd L id o o' L') : ∃ a b : Seg, L.flatten = a ++ (id, o) :: b ∧ L'.flatten = a ++ (id, o') :: b := by
  induction h with
  | @here L id o o' => exact ⟨[], L.flatten, by simp, by simp⟩
  | @there L L' s id o o' _ ih =>
    obtain ⟨a, b, h1, h2⟩ := ih
    exact ⟨s ++ a, b, by simp [h1], by simp [h2]⟩
theorem Pick.perm {L R : List Seg} {s : Seg} (h : Pick L s R) : L.flatten.Perm (s ++ R.flatten) := by
  induction h with
  | here => simp
  | @there L L' s x _ ih =>
    simp only [List.flatten_cons]
    refine (ih.append_left x).trans ?_
    rw [← List.append_assoc, ← List.append_assoc]
    exact List.perm_append_comm.append_right _
theorem Repl.split {L L' : List Seg} {s s' : Seg} (h : Repl L s s' L') : ∃ a b : Seg, L.flatten = a ++ s ++ b ∧ L'.flatten = a ++ s' ++ b := by
  induction h with
  | @here L s s' => exact ⟨[], L.flatten, by simp, by simp⟩
  | @there L L' s s' x _ ih =>
    obtain ⟨a, b, h1, h2⟩ := ih
    exact ⟨x ++ a, b, by simp [h1], by simp [h2]⟩

theorem Sat.at {M : Imm} {L : List Seg} {H : Heap} (h : Sat M L.flatten H) {id : Nat} {o : AObj} (ha : At L id o) : H.get id = some o := h.own _ ha.mem

/-- A thing of its own turns. -/
theorem Sat.upd {M : Imm} {L L' : List Seg} {H : Heap} (h : Sat M L.flatten H) {id : Nat} {o o' : AObj} (hu : Upd L id o o' L') :
    Sat M L'.flatten (H.set id o') ∧ Frm L.flatten H L'.flatten (H.set id o') := by
  obtain ⟨a, b, h1, h2⟩ := hu.split
  have hin : (id, o) ∈ L.flatten := hu.at.mem
  have hnd := h.nd
  rw [h1] at hnd
  simp only [List.map_append, List.map_cons] at hnd
  have hne : ∀ p ∈ a ++ b, p.1 ≠ id := by
    intro p hp e
    rw [List.nodup_append] at hnd
    obtain ⟨_, n2, n3⟩ := hnd
    rcases List.mem_append.1 hp with hp | hp
    · exact n3 _ (List.mem_map_of_mem hp) _ (.head _) e
    · exact (List.nodup_cons.1 n2).1 (e ▸ List.mem_map_of_mem hp)
  refine ⟨{ wf := ?_, imm := ?_, nd := ?_, own := ?_, apart := ?_ }, ⟨Nat.le_refl _, ?_⟩⟩
  · intro i x hx
    by_cases e : id = i
    · subst e; exact h.wf _ _ (h.own _ hin)
    · rw [Heap.get_set_ne _ _ e] at hx; exact h.wf _ _ hx
  · intro i c t hm
    have : id ≠ i := fun e => by
      have := h.apart _ hin
      simp only at this
      rw [e] at this
      rw [this] at hm
      cases hm
    rw [Heap.get_set_ne _ _ this]
    exact h.imm i c t hm
  · rw [h2]
    simpa using hnd
  · intro p hp
    rw [h2] at hp
    rcases List.mem_append.1 hp with hp | hp
    · rw [Heap.get_set_ne _ _ (Ne.symm (hne p (List.mem_append_left _ hp)))]
      exact h.own p (by rw [h1]; exact List.mem_append_left _ hp)
    · cases hp with
      | head => exact Heap.get_set_same _ _ _
      | tail _ hp =>
        rw [Heap.get_set_ne _ _ (Ne.symm (hne p (List.mem_append_right _ hp)))]
        exact h.own p (by rw [h1]; exact List.mem_append_right _ (.tail _ hp))
  · intro p hp
    rw [h2] at hp
    rcases List.mem_append.1 hp with hp | hp
    · exact h.apart p (by rw [h1]; exact List.mem_append_left _ hp)
    · cases hp with
      | head => exact h.apart (id, o) hin
      | tail _ hp => exact h.apart p (by rw [h1]; exact List.mem_append_right _ (.tail _ hp))
  · intro i x hx hn
    have : id ≠ i := hn _ hin
    refine ⟨by rw [Heap.get_set_ne _ _ this]; exact hx, fun p hp => ?_⟩
    rw [h2] at hp
    rcases List.mem_append.1 hp with hp | hp
    · exact hn p (by rw [h1]; exact List.mem_append_left _ hp)
    · cases hp with
      | head => exact this
      | tail _ hp => exact hn p (by rw [h1]; exact List.mem_append_right _ (.tail _ hp))

/-- Something new. -/
theorem Sat.new {M : Imm} {L : List Seg} {H : Heap} (h : Sat M L.flatten H) (o : AObj) :
    Sat M (([(H.next, o)] : Seg) :: L).flatten (H.alloc o) ∧ Frm L.flatten H (([(H.next, o)] : Seg) :: L).flatten (H.alloc o) := by
  have hlt : ∀ {i x}, H.get i = some x → H.next ≠ i := fun hx e => by have := h.wf _ _ hx; omega
  refine ⟨{ wf := ?_, imm := ?_, nd := ?_, own := ?_, apart := ?_ }, ⟨Nat.le_succ _, ?_⟩⟩
  · intro i x hx
    by_cases e : H.next = i
    · subst e; exact Nat.lt_succ_self _
    · rw [Heap.get_alloc_ne _ _ e] at hx; exact Nat.lt_succ_of_lt (h.wf _ _ hx)
  · intro i c t hm
    obtain ⟨k, h1, h2⟩ := h.imm i c t hm
    exact ⟨k, h1, by rw [Heap.get_alloc_ne _ _ (hlt h2)]; exact h2⟩
  · simp only [List.flatten_cons, List.map_cons, List.cons_append, List.nil_append, List.nodup_cons]
    refine ⟨fun hm => ?_, h.nd⟩
    obtain ⟨p, hp, e⟩ := List.mem_map.1 hm
    exact hlt (h.own p hp) e.symm
  · intro p hp
    simp only [List.flatten_cons, List.cons_append, List.nil_append, List.mem_cons] at hp
    rcases hp with rfl | hp
    · exact Heap.get_alloc_same _ _
    · rw [Heap.get_alloc_ne _ _ (hlt (h.own p hp))]; exact h.own p hp
  · intro p hp
    simp only [List.flatten_cons, List.cons_append, List.nil_append, List.mem_cons] at hp
    rcases hp with rfl | hp
    · cases e : M H.next with
      | none => rfl
      | some x =>
        obtain ⟨k, _, h2⟩ := h.imm _ x.1 x.2 e
        exact absurd rfl (hlt h2)
    · exact h.apart p hp
  · intro i x hx hn
    refine ⟨by rw [Heap.get_alloc_ne _ _ (hlt hx)]; exact hx, fun p hp => ?_⟩
    simp only [List.flatten_cons, List.cons_append, List.nil_append, List.mem_cons] at hp
    rcases hp with rfl | hp
    · exact hlt hx
    · exact hn p hp

/- ## rows of things of one size -/
def slAt (a : Option Addr) (k : Nat) : Value := .pointer (a.map fun p => p.add k)

/-- .. and a place within it. -/
def slAtF (a : Option Addr) (k o : Nat) : Value := .pointer (a.map fun p => (p.add k).add o)

theorem add_two (b o k j : Nat) : ((⟨b, o, none⟩ : Addr).add k).add j = ⟨b, o + k + j, none⟩ := by
  rw [show (⟨b, o, none⟩ : Addr).add k = ⟨b, o + k, none⟩ from add_off _ _ rfl]
  exact add_off _ _ rfl

/-- Things of one size: how many cells, which, and what stands where there is none. -/
structure El (α : Type) where
  sz : Nat
  enc : α → List Value
  dflt : α

/-- The k-th of things that a row holds. -/
def nthAt {α : Type} (d : α) (l : List α) (k : Nat) : α := l.getD k d

theorem nthAt_lt {α : Type} {d : α} {l : List α} {k : Nat} (h : k < l.length) : l[k]? = some (nthAt d l k) := by
  unfold nthAt
  rw [List.getD_eq_getElem?_getD, List.getElem?_eq_getElem h]
  rfl

theorem take_flatMap {α : Type} {d : α} {enc : α → List Value} {sz : Nat} (hsz : ∀ x, (enc x).length = sz) : ∀ (l : List α) (k : Nat), k < l.length →
    ((l.flatMap enc).drop (k * sz)).take sz = enc (nthAt d l k) := by
  intro l
  induction l with
  | nil => intro k h; simp at h
  | cons x l ih =>
    intro k h
    cases k with
    | zero =>
      simp only [Nat.zero_mul, List.drop_zero, List.flatMap_cons]
      rw [List.take_append_of_le_length (by rw [hsz]; exact Nat.le_refl _), List.take_of_length_le (by rw [hsz]; exact Nat.le_refl _)]
      rfl
    | succ k =>
      simp only [List.length_cons] at h
      have := ih k (by omega)
      rw [List.flatMap_cons, Nat.succ_mul, Nat.add_comm, List.drop_append, hsz, List.drop_of_length_le (by rw [hsz]; omega), List.nil_append]
      have e : sz + k * sz - sz = k * sz := by omega
      rw [e, this]
      rfl

theorem takeX_of {α : Type} : ∀ (n : Nat) (l : List α), n ≤ l.length → takeX n l = some (l.take n) := by
  intro n
  induction n with
  | zero => intro l _; rfl
  | succ n ih =>
    intro l h
    cases l with
    | nil => simp at h
    | cons x l => simp only [List.length_cons] at h; simp only [takeX, ih l (by omega), List.take_succ_cons]

theorem flatMap_len {α : Type} {enc : α → List Value} {sz : Nat} (hsz : ∀ x, (enc x).length = sz) : ∀ (l : List α), (l.flatMap enc).length = l.length * sz := by
  intro l
  induction l with
  | nil => simp
  | cons x l ih => simp only [List.flatMap_cons, List.length_append, hsz, ih, List.length_cons, Nat.succ_mul]; omega

theorem takeX_flatMap {α : Type} {d : α} {enc : α → List Value} {sz : Nat} (hsz : ∀ x, (enc x).length = sz) (l : List α) (k : Nat) (h : k < l.length) :
    takeX sz ((l.flatMap enc).drop (k * sz)) = some (enc (nthAt d l k)) := by
  rw [takeX_of, take_flatMap hsz l k h]
  rw [List.length_drop, flatMap_len hsz]
  have : (k + 1) * sz ≤ l.length * sz := Nat.mul_le_mul_right _ h
  rw [Nat.succ_mul] at this
  omega

theorem putX_flatMap {α : Type} {enc : α → List Value} {sz : Nat} (hsz : ∀ x, (enc x).length = sz) (x : α) : ∀ (l : List α) (k : Nat), k < l.length →
    putX (k * sz) (l.flatMap enc) (enc x) = some ((l.set k x).flatMap enc) := by
  have put0 : ∀ (vs c r : List Value), vs.length = c.length → putX 0 (c ++ r) vs = some (vs ++ r) := by
    intro vs
    induction vs with
    | nil => intro c r h; cases c with
      | nil => cases r <;> rfl
      | cons => cases h
    | cons v vs ih =>
      intro c r h
      cases c with
      | nil => cases h
      | cons y c => simp only [List.length_cons, Nat.add_right_cancel_iff] at h; simp only [List.cons_append, putX, ih c r h]
  have putS : ∀ (p : List Value) (m : Nat) (c vs r : List Value), p.length = m → putX 0 c vs = some r → putX m (p ++ c) vs = some (p ++ r) := by
    intro p
    induction p with
    | nil => intro m c vs r h h2; subst h; exact h2
    | cons y p ih =>
      intro m c vs r h h2
      subst h
      simp only [List.length_cons, List.cons_append, putX, ih p.length c vs r rfl h2]
  intro l
  induction l with
  | nil => intro k h; simp at h
  | cons y l ih =>
    intro k h
    cases k with
    | zero =>
      simp only [Nat.zero_mul, List.flatMap_cons, List.set_cons_zero]
      exact put0 _ _ _ (by rw [hsz, hsz])
    | succ k =>
      simp only [List.length_cons] at h
      have := ih k (by omega)
      simp only [List.flatMap_cons, List.set_cons_succ]
      have gen : ∀ (p : List Value) (m : Nat) (c vs r : List Value), putX m c vs = some r → putX (p.length + m) (p ++ c) vs = some (p ++ r) := by
        intro p
        induction p with
        | nil => intro m c vs r h; simpa using h
        | cons z p ihp =>
          intro m c vs r h
          have := ihp m c vs r h
          simp only [List.length_cons, List.cons_append]
          rw [show p.length + 1 + m = (p.length + m) + 1 by omega]
          simp only [putX, this]
      have e : (k + 1) * sz = (enc y).length + k * sz := by rw [hsz, Nat.succ_mul]; omega
      rw [e]
      exact gen _ _ _ _ _ this

/-- A slice of what nobody writes. -/
structure IsSl (M : Imm) {α : Type} (e : El α) (a : Option Addr) (l : List α) : Prop where
  some : l ≠ [] → a.isSome = true
  len : l.length ≤ 1099511627776
  read : ∀ k, k < l.length → ∃ b o cells t, a = .some ⟨b, o, none⟩ ∧ M b = .some (cells, t) ∧ takeX e.sz (cells.drop (o + k * e.sz)) = .some (e.enc (nthAt e.dflt l k))

theorem IsSl.mono {M N : Imm} {α : Type} {e : El α} {a : Option Addr} {l : List α} (h : IsSl M e a l) (hm : MLe M N) : IsSl N e a l :=
  ⟨h.some, h.len, fun k hk => let ⟨b, o, cells, t, h1, h2, h3⟩ := h.read k hk; ⟨b, o, cells, t, h1, hm _ _ h2, h3⟩⟩
/-- Nothing, wherever it lies. -/
theorem IsSl.empty (M : Imm) {α : Type} (e : El α) (a : Option Addr) : IsSl M e a [] := ⟨fun h => absurd rfl h, Nat.zero_le _, fun _ hk => absurd hk (Nat.not_lt_zero _)⟩
theorem IsSl.nil (M : Imm) {α : Type} (e : El α) : IsSl M e none [] := IsSl.empty M e none

/-- A slice that grows: nothing yet, or the whole of an open row. -/
def Own (t : TypeId) {α : Type} (e : El α) (s : Seg) (l : List α) : Prop := (s = [] ∧ l = []) ∨ ∃ id, s = [(id, .row (l.flatMap e.enc) t .opn)] ∧ l ≠ []
def segA : Seg → Option Addr
  | [] => none
  | (id, _) :: _ => some ⟨id, 0, none⟩
def segC : Seg → Nat
  | [] => 0
  | _ :: _ => OPEN

theorem Own.nil (t : TypeId) {α : Type} (e : El α) : Own t e [] ([] : List α) := .inl ⟨rfl, rfl⟩

inductive AOk (M : Imm) : Option Addr → Nat → Prop where
  | lit {p m} : AOk M (some p) m
  | own {α : Type} {e : El α} {t s} {l : List α} : Own t e s l → AOk M (segA s) l.length
  | imm {α : Type} {e : El α} {a} {l : List α} : IsSl M e a l → AOk M a l.length
theorem AOk.some {M : Imm} {a : Option Addr} {m : Nat} (h : AOk M a m) (hm : 0 < m) : ∃ p, a = some p := by
  cases h with
  | lit => exact ⟨_, rfl⟩
  | own h =>
    rcases h with ⟨_, rfl⟩ | ⟨id, rfl, _⟩
    · simp at hm
    · exact ⟨_, rfl⟩
  | imm h =>
    have := h.some (fun e => by subst e; simp at hm)
    exact Option.isSome_iff_exists.1 this

/- ## side conditions, wrapped, so that a tactic knows them -/
def Bd (k m : Nat) : Prop := k < m
theorem Bd.mk {k m : Nat} (h : k < m) : Bd k m := h
theorem Bd.lt {k m : Nat} (h : Bd k m) : k < m := h
def Rng (x : Int) : Prop := -9223372036854775808 ≤ x ∧ x ≤ 9223372036854775807
theorem Rng.mk {x : Int} (h : -9223372036854775808 ≤ x) (h' : x ≤ 9223372036854775807) : Rng x := ⟨h, h'⟩
theorem Rng.lo {x : Int} (h : Rng x) : -9223372036854775808 ≤ x := h.1
theorem Rng.hi {x : Int} (h : Rng x) : x ≤ 9223372036854775807 := h.2
def IsN (i : Int) (k : Nat) : Prop := i = (k : Int)

/- ## reading -/
inductive Ld (T : TT) (M : Imm) (L : List Seg) (t : TypeId) : Value → Value → Prop where
  | rowF {α : Type} {e : El α} {id kd k u o s v vs} {l : List α} {tk sz tb ag z} : At L id (.row (l.flatMap e.enc) u kd) → isDead kd = false → (∀ x, (e.enc x).length = e.sz) → T.get t = some ⟨tk, sz, tb, ag, z⟩ → Nat.beq e.sz s = true → Bd k l.length →
      takeX sz ((e.enc (nthAt e.dflt l k)).drop o) = some vs → mkV ag vs = some v → Ld T M L t (slAtF (some ⟨id, 0, none⟩) (k * s) o) v
  | ownF {α : Type} {e : El α} {s R u k o sw v vs} {l : List α} {tk sz tb ag z} : Own u e s l → Pick L s R → (∀ x, (e.enc x).length = e.sz) → T.get t = some ⟨tk, sz, tb, ag, z⟩ → Nat.beq e.sz sw = true → Bd k l.length →
      takeX sz ((e.enc (nthAt e.dflt l k)).drop o) = some vs → mkV ag vs = some v → Ld T M L t (slAtF (segA s) (k * sw) o) v
  | immF {α : Type} {e : El α} {a k o s v vs} {l : List α} {tk sz tb ag z} : IsSl M e a l → T.get t = some ⟨tk, sz, tb, ag, z⟩ → Nat.beq e.sz s = true → Bd k l.length → takeX sz ((e.enc (nthAt e.dflt l k)).drop o) = some vs → mkV ag vs = some v → Ld T M L t (slAtF a (k * s) o) v
  | row {α : Type} {e : El α} {id kd k u v} {l : List α} {tk sz tb ag z} : At L id (.row (l.flatMap e.enc) u kd) → isDead kd = false → (∀ x, (e.enc x).length = e.sz) → T.get t = some ⟨tk, sz, tb, ag, z⟩ → Nat.beq e.sz sz = true → Bd k l.length →
      mkV ag (e.enc (nthAt e.dflt l k)) = some v → Ld T M L t (slAt (some ⟨id, 0, none⟩) (k * sz)) v
  | own {α : Type} {e : El α} {s R u k v} {l : List α} {tk sz tb ag z} : Own u e s l → Pick L s R → (∀ x, (e.enc x).length = e.sz) → T.get t = some ⟨tk, sz, tb, ag, z⟩ → Nat.beq e.sz sz = true → Bd k l.length →
      mkV ag (e.enc (nthAt e.dflt l k)) = some v → Ld T M L t (slAt (segA s) (k * sz)) v
  | imm {α : Type} {e : El α} {a k v} {l : List α} {tk sz tb ag z} : IsSl M e a l → T.get t = some ⟨tk, sz, tb, ag, z⟩ → Nat.beq e.sz sz = true → Bd k l.length → mkV ag (e.enc (nthAt e.dflt l k)) = some v → Ld T M L t (slAt a (k * sz)) v
  | pt {id off cells e k tk sz tb ag z vs v} : At L id (.row cells e k) → isDead k = false → T.get t = some ⟨tk, sz, tb, ag, z⟩ → takeX sz (cells.drop off) = some vs → mkV ag vs = some v → Ld T M L t (.pointer (some ⟨id, off, none⟩)) v

theorem takeX_part {α : Type} {m n o : Nat} {l r v : List α} (h : takeX m l = some r) (h' : takeX n (r.drop o) = some v) : takeX n (l.drop o) = some v := by
  cases n with
  | zero => exact h'
  | succ n =>
    obtain ⟨h1, h2⟩ := takeX_spec _ _ _ h
    obtain ⟨h3, h4⟩ := takeX_spec _ _ _ h'
    have hle : o + (n + 1) ≤ m := by
      have e := h4 n (by omega)
      rw [List.getElem?_eq_getElem (by omega : n < v.length)] at e
      have := (List.getElem?_eq_some_iff.1 e).1
      rw [List.length_drop] at this
      omega
    have hll : m ≤ l.length := by
      rcases Nat.eq_zero_or_pos m with h0 | h0
      · omega
      · have e := h2 (m - 1) (by omega)
        rw [List.getElem?_eq_getElem (by omega : m - 1 < r.length)] at e
        have := (List.getElem?_eq_some_iff.1 e).1
        omega
    rw [takeX_of _ _ (by rw [List.length_drop]; omega)]
    congr 1
    apply List.ext_getElem?
    intro j
    by_cases hj : j < n + 1
    · rw [List.getElem?_take_of_lt hj, List.getElem?_drop, h2 _ (by omega), ← h4 j hj, List.getElem?_drop]
    · rw [List.getElem?_eq_none (by rw [List.length_take]; omega), List.getElem?_eq_none (by omega)]

theorem mkV_load {P : Program} {T : TT} (hT : TOk P T) {H : Heap} {t : TypeId} {i : TI} {a : Addr} {vs : List Value} {v : Value} (hi : T.get t = some i) (hx : xcells H a i.size = some vs) (hv : mkV i.agg vs = some v) :
    xload P H t (.pointer (some a)) = some v := by
  have h := hT t i hi
  have hag := h.agg
  unfold mkV at hv
  split at hv
  · rename_i ha
    rw [ha] at hag
    simp only [Option.some.injEq] at hv
    subst hv
    unfold xload
    simp only [hag, h.size, hx]
  · rename_i u ha
    rw [ha] at hag
    simp only [Option.some.injEq] at hv
    subst hv
    unfold xload
    simp only [hag]
    have : i.size = 1 := by
      unfold xcells at hx
      split at hx
      · split at hx
        · have := (takeX_spec _ _ _ hx).1; simp at this; omega
        · cases hx
      · cases hx
    rw [this] at hx
    simp only [hx]
  · cases hv

theorem Ld.ok {P : Program} {T : TT} (hT : TOk P T) {M : Imm} {L : List Seg} {H : Heap} (hs : Sat M L.flatten H) {t : TypeId} {x v : Value} (h : Ld T M L t x v) : xload P H t x = some v := by
  have cell : ∀ {id off cells e k m vs}, H.get id = some (.row cells e k) → isDead k = false → takeX m (cells.drop off) = some vs → xcells H ⟨id, off, none⟩ m = some vs := by
    intro id off cells e k m vs h1 h2 h3
    unfold xcells
    simp only [h1, h2, h3]
  cases h with
  | pt h1 h2 h3 h4 h5 => exact mkV_load hT h3 (cell (hs.at h1) h2 h4) h5
  | imm h1 h2 hz h3 h4 =>
    obtain ⟨b, o, cells, e, rfl, hm, hr⟩ := h1.read _ h3.lt
    obtain ⟨k, hd, hg⟩ := hs.imm _ _ _ hm
    have hz := Nat.eq_of_beq_eq_true hz
    subst hz
    unfold slAt
    simp only [Option.map_some]
    rw [add_off _ _ rfl]
    exact mkV_load hT h2 (cell hg hd hr) h4
  | row h1 h2 h3 h4 hz h5 h6 =>
    have hz := Nat.eq_of_beq_eq_true hz
    subst hz
    unfold slAt
    simp only [Option.map_some]
    rw [add_off _ _ rfl]
    refine mkV_load hT h4 (cell (hs.at h1) h2 ?_) h6
    simp only [Nat.zero_add]
    exact takeX_flatMap h3 _ _ h5.lt
  | own h1 h2 h3 h4 hz h5 h6 =>
    have hz := Nat.eq_of_beq_eq_true hz
    subst hz
    rcases h1 with ⟨_, rfl⟩ | ⟨id, rfl, _⟩
    · have := h5.lt; simp at this
    · unfold slAt
      simp only [segA, Option.map_some]
      rw [add_off _ _ rfl]
      have hg := (hs.perm h2.perm).own (id, _) (.head _)
      refine mkV_load hT h4 (cell hg rfl ?_) h6
      simp only [Nat.zero_add]
      exact takeX_flatMap h3 _ _ h5.lt
  | immF h1 h2 hz h3 h5 h4 =>
    obtain ⟨b, o, cells, e, rfl, hm, hr⟩ := h1.read _ h3.lt
    obtain ⟨k, hd, hg⟩ := hs.imm _ _ _ hm
    have hz := Nat.eq_of_beq_eq_true hz
    subst hz
    unfold slAtF
    simp only [Option.map_some]
    rw [add_two]
    refine mkV_load hT h2 (cell hg hd ?_) h4
    have := takeX_part hr h5
    rwa [List.drop_drop] at this
  | rowF h1 h2 h3 h4 hz h5 h7 h6 =>
    have hz := Nat.eq_of_beq_eq_true hz
    subst hz
    unfold slAtF
    simp only [Option.map_some]
    rw [add_two]
    refine mkV_load hT h4 (cell (hs.at h1) h2 ?_) h6
    simp only [Nat.zero_add]
    have := takeX_part (takeX_flatMap h3 _ _ h5.lt) h7
    rwa [List.drop_drop] at this
  | ownF h1 h2 h3 h4 hz h5 h7 h6 =>
    have hz := Nat.eq_of_beq_eq_true hz
    subst hz
    rcases h1 with ⟨_, rfl⟩ | ⟨id, rfl, _⟩
    · have := h5.lt; simp at this
    · unfold slAtF
      simp only [segA, Option.map_some]
      rw [add_two]
      have hg := (hs.perm h2.perm).own (id, _) (.head _)
      refine mkV_load hT h4 (cell hg rfl ?_) h6
      simp only [Nat.zero_add]
      have := takeX_part (takeX_flatMap h3 _ _ h5.lt) h7
      rwa [List.drop_drop] at this

abbrev P2 := Int × Int
def eP : El P2 := ⟨2, fun x => [.int .i64 x.1, .int .i64 x.2], (0, 0)⟩
/- ## slices in slices; how a row's cells are a thing -/
structure SlOf (α : Type) where
  a : Option Addr
  c : Nat
  l : List α
def eSl (α : Type) : El (SlOf α) := ⟨1, fun x => [.slice x.a x.l.length x.c], ⟨none, 0, []⟩⟩
inductive EncIs : {α : Type} → El α → List Value → α → Prop where
  | nil {α : Type} : EncIs (eSl α) [.slice none 0 0] ⟨none, 0, []⟩
  | sl {α : Type} {a c} {l : List α} : EncIs (eSl α) [.slice a l.length c] ⟨a, c, l⟩
  | pair {x y} : EncIs eP [.int .i64 x, .int .i64 y] (x, y)
  | any {α : Type} {e : El α} {cells x} : cells = e.enc x → EncIs e cells x
theorem EncIs.eq {α : Type} {e : El α} {cells : List Value} {x : α} (h : EncIs e cells x) : cells = e.enc x := by
  cases h with
  | nil => rfl
  | sl => rfl
  | pair => rfl
  | any h => exact h

/- ## writing -/
inductive St (T : TT) (L : List Seg) (t : TypeId) : Value → Value → List Seg → Prop where
  | row {α : Type} {e : El α} {id u kd k v vs L'} {l : List α} {x : α} {tk sz tb ag z} : T.get t = some ⟨tk, sz, tb, ag, z⟩ → cellsV ag v = some vs → At L id (.row (l.flatMap e.enc) u kd) → EncIs e vs x → flatL vs = true → (∀ x, (e.enc x).length = e.sz) → Nat.beq e.sz sz = true →
      Upd L id (.row (l.flatMap e.enc) u kd) (.row ((l.set k x).flatMap e.enc) u kd) L' → isOwn kd = true → Bd k l.length → St T L t (slAt (some ⟨id, 0, none⟩) (k * sz)) v L'
  | pt {id off cells e k tk sz tb ag z v vs r L'} : T.get t = some ⟨tk, sz, tb, ag, z⟩ → cellsV ag v = some vs → Nat.beq vs.length sz = true → flatL vs = true → At L id (.row cells e k) → isOwn k = true → putX off cells vs = some r →
      Upd L id (.row cells e k) (.row r e k) L' → St T L t (.pointer (some ⟨id, off, none⟩)) v L'

theorem store_of {P : Program} {T : TT} (hT : TOk P T) {H : Heap} {t : TypeId} {i : TI} {a : Addr} {v : Value} {vs cells r : List Value} {e : TypeId} {k : Kind} (hi : T.get t = some i) (hc : cellsV i.agg v = some vs)
    (hl : vs.length = i.size) (hf : flatL vs = true) (hs : a.spot = none) (hg : H.get a.block = some (.row cells e k)) (ho : isOwn k = true) (hp : putX a.off cells vs = some r) :
    xstore P H t (.pointer (some a)) v = some (H.set a.block (.row r e k)) := by
  have h := hT t i hi
  have hv := cellsV_cells hc
  unfold xstore
  simp only [h.size, hv]
  have : Nat.beq (⟨vs⟩ : Array Value).size i.size = true := by
    have : (⟨vs⟩ : Array Value).size = vs.length := rfl
    rw [this, hl]; exact Nat.beq_refl _
  simp only [this, hf]
  unfold xput
  simp only [hs, hg, ho, hp]

theorem Own.one {t : TypeId} {α : Type} {e : El α} {s : Seg} {l : List α} (h : Own t e s l) (hl : l ≠ []) : ∃ id, s = [(id, .row (l.flatMap e.enc) t .opn)] := by
  rcases h with ⟨_, h⟩ | ⟨id, h, _⟩
  · exact absurd h hl
  · exact ⟨id, h⟩

theorem St.ok {P : Program} {T : TT} (hT : TOk P T) {M : Imm} {L L' : List Seg} {H : Heap} (hs : Sat M L.flatten H) {t : TypeId} {x v : Value} (h : St T L t x v L') :
    ∃ H', xstore P H t x v = some H' ∧ Sat M L'.flatten H' ∧ Frm L.flatten H L'.flatten H' := by
  cases h with
  | pt h1 h2 h3 h4 _ h6 h7 h5 =>
    obtain ⟨a, b⟩ := hs.upd h5
    exact ⟨_, store_of hT h1 h2 (Nat.eq_of_beq_eq_true h3) h4 rfl (hs.at h5.at) h6 h7, a, b⟩
  | row h1 h2 _ h3' h4 h5 hz h6 h7 h8 =>
    have h3 := h3'.eq
    have hz := Nat.eq_of_beq_eq_true hz
    subst hz
    obtain ⟨a, b⟩ := hs.upd h6
    refine ⟨_, ?_, a, b⟩
    unfold slAt
    simp only [Option.map_some]
    rw [add_off _ _ rfl]
    refine store_of hT h1 h2 (by rw [h3, h5]) h4 rfl (hs.at h6.at) h7 ?_
    simp only [Nat.zero_add]
    rw [h3]
    exact putX_flatMap h5 _ _ _ h8.lt

theorem Repl.upd {L L' : List Seg} {s s' : Seg} (h : Repl L s s' L') : ∀ {id o o'}, s = [(id, o)] → s' = [(id, o')] → Upd L id o o' L' := by
  induction h with
  | here => rintro id o o' rfl rfl; exact .here
  | there _ ih => intro id o o' a b; exact .there (ih a b)
end
end Go.Proofs.YtibeinbfhhoeiaaGreatDoor.Ab

namespace Go.Proofs.YtibeinbfhhoeiaaGreatDoor.Ab
open Go
noncomputable section

/- ## things of usual kinds -/
def eI : El Int := ⟨1, fun x => [.int .i64 x], 0⟩
def eB : El Bool := ⟨1, fun x => [.bool x], false⟩
def eU : El Int := ⟨1, fun x => [.int .u8 x], 0⟩
def eS : El ByteArray := ⟨1, fun x => [.string x], ⟨⟨[]⟩⟩⟩
def eV : El Value := ⟨1, fun x => [x], undef⟩
/-- Pairs of numbers. -/

/- ## slices that are made -/
def yfillA (sz : Nat) (ag : Bool) : List (Nat × Value) → List Value → Option (List Value)
  | [], cells => some cells
  | (i, v) :: l, cells => match cellsV ag v with
    | some vs => match Nat.beq vs.length sz, putX (i * sz) cells vs with
      | true, some r => yfillA sz ag l r
      | _, _ => none
    | none => none
theorem yfillA_ok {sz : Nat} {ag : Bool} : ∀ (parts : List (Nat × Value)) (cells r : List Value), yfillA sz ag parts cells = some r → Instr.fill (fun i => some (i * sz, sz)) ⟨cells⟩ parts = some ⟨r⟩ := by
  intro parts
  induction parts with
  | nil => intro cells r h; simp only [yfillA, Option.some.injEq] at h; subst h; rfl
  | cons p parts ih =>
    obtain ⟨i, v⟩ := p
    intro cells r h
    simp only [yfillA] at h
    split at h
    · rename_i vs hvs
      split at h
      · rename_i r' hb hput
        have hlen := Nat.eq_of_beq_eq_true hb
        have hc := cellsV_cells hvs
        simp only [Instr.fill, hc]
        have hle := putX_len _ _ _ _ hput
        rw [if_neg (by simp [hlen]; omega)]
        rw [← ih r' r h]
        congr 1
        rw [← Array.foldl_toList]
        simp only [Array.toList_zipIdx]
        exact fold_put vs 0 (i * sz) cells r' hput
      · cases h
    · cases h

section
variable {P : Program} {T : TT} (hT : TOk P T)
include hT

theorem zcells {t : TypeId} {i : TI} (h : T.get t = some i) : ∃ z, xzero P t = some z ∧ z.cells.toList = i.zero ∧ z.cells.size = i.size := by
  obtain ⟨z, h1, _, h3⟩ := (hT t i h).zero
  refine ⟨z, h1, h3, ?_⟩
  rw [← (hT t i h).zl, ← h3]; rfl

theorem buildSlice_ok {H : Heap} {t e : TypeId} {n : Nat} {parts : List (Nat × Value)} {sz0 b0 z0 ag0 tk sz tb ag z r} (ht : T.get t = some ⟨.slice e, sz0, b0, ag0, z0⟩) (he : T.get e = some ⟨tk, sz, tb, ag, z⟩) (hn : Nat.ble (n * sz) 16777216 = true) (h1 : Nat.ble 1 sz = true)
    (hf : yfillA sz ag parts (zerosL z n) = some r) : xbuildSlice P H t n parts = some (.slice (some ⟨H.next, 0, none⟩) n n, H.alloc (.row r e .fixed)) := by
  obtain ⟨zv, z1, z2, z3⟩ := zcells hT he
  have := yfillA_ok parts _ r hf
  unfold xbuildSlice
  simp only [(hT _ _ ht).slice rfl, (hT _ _ he).size, z1, z3, Nat.beq_refl, hn, h1, z2]
  rw [this]

omit hT in
theorem zerosL_rep {α : Type} {e : El α} {d : α} {z : List Value} (hz : z = e.enc d) : ∀ n, zerosL z n = (List.replicate n d).flatMap e.enc := by
  subst hz
  intro n
  induction n with
  | zero => rfl
  | succ n ih => simp only [zerosL, List.replicate_succ, List.flatMap_cons, ih]

theorem makeSlice_ok {H : Heap} {t e : TypeId} {m : Nat} {α : Type} {el : El α} {d : α} {k1 k2 : IntKind} {sz0 b0 z0 ag0 tk sz tb ag z} (ht : T.get t = some ⟨.slice e, sz0, b0, ag0, z0⟩) (he : T.get e = some ⟨tk, sz, tb, ag, z⟩) (hz : z = el.enc d)
    (hm : m ≤ 1099511627776) (hb : Nat.ble tb 256 = true) (h1 : Nat.ble 1 sz = true) :
    xmakeSlice P H t (.int k1 (m : Int)) (.int k2 (m : Int)) = some (.slice (some ⟨H.next, 0, none⟩) m m, H.alloc (.row ((List.replicate m d).flatMap el.enc) e .fixed)) := by
  obtain ⟨zv, z1, z2, z3⟩ := zcells hT he
  have hb' := Nat.le_of_ble_eq_true hb
  unfold xmakeSlice
  simp only [(hT _ _ ht).slice rfl, (hT _ _ he).size, (hT _ _ he).bytes, z1, z3, Nat.beq_refl, z2]
  have c1 : decide ((0 : Int) ≤ (m : Int)) = true := decide_eq_true (Int.natCast_nonneg _)
  have c2 : decide ((m : Int) ≤ (m : Int)) = true := decide_eq_true (Int.le_refl _)
  have c3 : decide ((m : Int) ≤ 1099511627776) = true := decide_eq_true (by omega)
  have c4 : decide ((tb : Int) * (m : Int) ≤ 281474976710656) = true := decide_eq_true (by
    have : tb * m ≤ 256 * 1099511627776 := Nat.mul_le_mul hb' hm
    have : ((tb * m : Nat) : Int) ≤ 281474976710656 := by omega
    simpa using this)
  simp only [c1, c2, c3, c4, h1, Bool.and_self, Int.toNat_natCast]
  rw [zerosL_rep hz]
end


/- ## what is laid behind a slice -/
/-- What an append takes its things from. -/
inductive Src (M : Imm) (L : List Seg) {α : Type} (e : El α) : Value → List α → Prop where
  | tmp {id cells u k x} : At L id (.row cells u k) → isDead k = false → EncIs e cells x → Src M L e (.slice (some ⟨id, 0, none⟩) 1 1) [x]
  | row {id u k m c} {l : List α} : At L id (.row (l.flatMap e.enc) u k) → isDead k = false → m = l.length → Src M L e (.slice (some ⟨id, 0, none⟩) m c) l
  | own {s R u m c} {l : List α} : Own u e s l → Pick L s R → m = l.length → Src M L e (.slice (segA s) m c) l
  | imm {a m c} {l : List α} : IsSl M e a l → m = l.length → Src M L e (.slice a m c) l

theorem flatMap_split {α : Type} (enc : α → List Value) (l : List α) (k : Nat) : (l.flatMap enc) = ((l.take k).flatMap enc) ++ ((l.drop k).flatMap enc) := by
  rw [← List.flatMap_append, List.take_append_drop]

theorem takeX_all {α : Type} {e : El α} (hsz : ∀ x, (e.enc x).length = e.sz) (l : List α) : takeX (l.length * e.sz) (l.flatMap e.enc) = some (l.flatMap e.enc) := by
  rw [takeX_of _ _ (by rw [flatMap_len hsz]; exact Nat.le_refl _), List.take_of_length_le (by rw [flatMap_len hsz]; exact Nat.le_refl _)]

theorem takeX_steps {α : Type} {e : El α} (hsz : ∀ x, (e.enc x).length = e.sz) (cells : List Value) : ∀ (l : List α) (o : Nat), (∀ k, k < l.length → takeX e.sz (cells.drop (o + k * e.sz)) = some (e.enc (nthAt e.dflt l k))) →
    takeX (l.length * e.sz) (cells.drop o) = some (l.flatMap e.enc) := by
  intro l
  induction l with
  | nil => intro o _; simp [takeX]
  | cons x l ih =>
    intro o h
    have h0 := h 0 (by simp)
    simp only [Nat.zero_mul, Nat.add_zero] at h0
    have hx : nthAt e.dflt (x :: l) 0 = x := rfl
    rw [hx] at h0
    have hr := ih (o + e.sz) (fun k hk => by
      have := h (k + 1) (by simp; omega)
      have e1 : o + (k + 1) * e.sz = o + e.sz + k * e.sz := by rw [Nat.succ_mul]; omega
      rw [e1] at this
      rw [this]; rfl)
    have hlen : e.sz ≤ (cells.drop o).length := by
      have := (takeX_spec _ _ _ h0)
      rw [hsz] at this
      rcases Nat.lt_or_ge (cells.drop o).length e.sz with hlt | hge
      · have h2 := this.2 (cells.drop o).length hlt
        rw [List.getElem?_eq_none (Nat.le_refl _)] at h2
        rw [List.getElem?_eq_getElem (by rw [hsz]; exact hlt)] at h2
        cases h2
      · exact hge
    rw [takeX_of _ _ hlen] at h0
    have h0' := Option.some.inj h0
    have hlen2 : l.length * e.sz ≤ (cells.drop (o + e.sz)).length := by
      have := takeX_spec _ _ _ hr
      rw [flatMap_len hsz] at this
      rcases Nat.lt_or_ge (cells.drop (o + e.sz)).length (l.length * e.sz) with hlt | hge
      · have h2 := this.2 _ hlt
        rw [List.getElem?_eq_none (Nat.le_refl _)] at h2
        rw [List.getElem?_eq_getElem (by rw [flatMap_len hsz]; exact hlt)] at h2
        cases h2
      · exact hge
    rw [takeX_of _ _ hlen2] at hr
    have hr' := Option.some.inj hr
    have hd : cells.drop (o + e.sz) = (cells.drop o).drop e.sz := by rw [List.drop_drop]
    rw [hd] at hr' hlen2
    rw [List.length_cons, Nat.succ_mul, Nat.add_comm, takeX_of _ _ (by rw [List.length_drop] at hlen2; omega)]
    rw [List.take_add, h0', hr', List.flatMap_cons]

theorem xnew_of {H : Heap} {sz n : Nat} {a : Addr} {c : Nat} {l : List Value} (h : xcells H a (n * sz) = some l) : xnew H sz (.slice (some a) n c) = some (n, l) := by
  unfold xnew
  cases hn : Nat.beq n 0 with
  | true =>
    have hn := Nat.eq_of_beq_eq_true hn
    subst hn
    unfold xcells at h
    split at h
    · split at h
      · rw [Nat.zero_mul] at h
        have h := (takeX_spec _ _ _ h).1
        rw [List.length_eq_zero_iff.1 h]
      · cases h
    · cases h
  | false => simp only [h, hn]

theorem Src.ok {M : Imm} {L : List Seg} {H : Heap} (hs : Sat M L.flatten H) {α : Type} {e : El α} (hsz : ∀ x, (e.enc x).length = e.sz) {v : Value} {xs : List α} (h : Src M L e v xs) : xnew H e.sz v = some (xs.length, xs.flatMap e.enc) ∧ isStr v = false := by
  have cell : ∀ {id off cells u k m vs}, H.get id = some (.row cells u k) → isDead k = false → takeX m (cells.drop off) = some vs → xcells H ⟨id, off, none⟩ m = some vs := by
    intro id off cells u k m vs h1 h2 h3
    unfold xcells
    simp only [h1, h2, h3]
  cases h with
  | tmp h1 h2 h3 =>
    rename_i id cells u k x
    refine ⟨?_, rfl⟩
    refine xnew_of (cell (hs.at h1) h2 ?_)
    have h3 := h3.eq
    subst h3
    simp only [Nat.one_mul, List.drop_zero, List.flatMap_cons, List.flatMap_nil, List.append_nil]
    rw [takeX_of _ _ (by rw [hsz]; exact Nat.le_refl _), List.take_of_length_le (by rw [hsz]; exact Nat.le_refl _)]
  | row h1 h2 h3 =>
    subst h3
    exact ⟨xnew_of (cell (hs.at h1) h2 (by rw [List.drop_zero]; exact takeX_all hsz _)), rfl⟩
  | own h1 h2 h3 =>
    subst h3
    refine ⟨?_, rfl⟩
    rcases h1 with ⟨rfl, rfl⟩ | ⟨id, rfl, _⟩
    · rfl
    · have hg := (hs.perm h2.perm).own (id, _) (.head _)
      exact xnew_of (cell hg rfl (by rw [List.drop_zero]; exact takeX_all hsz _))
  | imm h1 h3 =>
    subst h3
    refine ⟨?_, rfl⟩
    rename_i a c
    cases hx : xs with
    | nil => cases a with
      | none => rfl
      | some p => rfl
    | cons x l =>
      obtain ⟨b, o, cells, t, rfl, hm, _⟩ := h1.read 0 (by rw [hx]; simp)
      rw [← hx]
      obtain ⟨k, hd, hg⟩ := hs.imm _ _ _ hm
      refine xnew_of (cell hg hd ?_)
      refine takeX_steps hsz cells xs o fun k hk => ?_
      obtain ⟨b', o', cells', t', e1, hm', hr⟩ := h1.read k hk
      cases e1
      rw [hm] at hm'
      cases hm'
      exact hr
/-- A group of own things, what stands ahead of it and behind it. -/
inductive Spl : List Seg → List Seg → Seg → List Seg → Prop where
  | here {L s} : Spl (s :: L) [] s L
  | there {L A s B x} : Spl L A s B → Spl (x :: L) (x :: A) s B
theorem Spl.eq {L A B : List Seg} {s : Seg} (h : Spl L A s B) : L = A ++ s :: B := by
  induction h with
  | here => rfl
  | there _ ih => rw [ih]; rfl
theorem Spl.perm {L A B : List Seg} {s : Seg} (_ : Spl L A s B) (s' : Seg) : (A ++ s' :: B).flatten.Perm (s' ++ (A ++ B).flatten) := by
  simp only [List.flatten_append, List.flatten_cons]
  rw [← List.append_assoc, ← List.append_assoc]
  exact List.perm_append_comm.append_right _

theorem Sat.mono_nil {M : Imm} {L : List Seg} {H : Heap} (h : Sat M L.flatten H) : Sat M (([] : Seg) :: L).flatten H := by simpa using h

theorem flatL_append : ∀ (a b : List Value), flatL a = true → flatL b = true → flatL (a ++ b) = true
  | [], _, _, hb => hb
  | _ :: a, b, ha, hb => by
    simp only [flatL, Bool.and_eq_true, List.cons_append] at ha ⊢
    exact ⟨ha.1, flatL_append a b ha.2 hb⟩
theorem flatL_flatMap {α : Type} {enc : α → List Value} (h : ∀ x, flatL (enc x) = true) : ∀ l : List α, flatL (l.flatMap enc) = true
  | [] => rfl
  | x :: _ => by rw [List.flatMap_cons]; exact flatL_append _ _ (h x) (flatL_flatMap h _)

section
/-- The append, its types known. -/
theorem append_at {P : Program} {T : TT} (hT : TOk P T) {H : Heap} {st xt e : TypeId} {u v : Value} {n : Nat} {new : List Value} {sz0 b0 ag0 z0 tk sz tb ag z} {xi : TI} (ht : T.get st = some ⟨.slice e, sz0, b0, ag0, z0⟩) (he : T.get e = some ⟨tk, sz, tb, ag, z⟩) (hx : T.get xt = some xi)
    (hxk : (match xi.k with | .slice _ => true | .str => true | _ => false) = true) (h1 : Nat.ble 1 sz = true) (hb : Nat.ble tb 4096 = true) (hnew : xnew H sz v = some (n, new)) (hstr : (isStr v && !(Nat.beq sz 1)) = false) (hn : Nat.ble (sliceLen u + n) 1073741824 = true) :
    xappend P H #[st, xt] [u, v] = xappendAt H e sz u n new := by
  obtain ⟨zv, z1, z2, z3⟩ := zcells hT he
  have hxd : ∃ d, xunder P xt = some d ∧ isInt d = false := by
    have hi := hT _ _ hx
    cases hk : xi.k <;> rw [hk] at hxk <;> first | cases hxk | skip
    · exact ⟨_, hi.str hk, rfl⟩
    · exact ⟨_, hi.slice hk, rfl⟩
  obtain ⟨d, hd1, hd2⟩ := hxd
  unfold xappend
  have a0 : (#[st, xt] : Array TypeId)[0]? = some st := rfl
  have a1 : (#[st, xt] : Array TypeId)[1]? = some xt := rfl
  simp only [a0, a1, (hT _ _ ht).slice rfl, hd1, hd2, (hT _ _ he).size, (hT _ _ he).bytes, z1, z3, Nat.beq_refl, h1, hb, hstr, hnew, hn]

variable {M : Imm} {L : List Seg} {H : Heap}
/-- A new open row. -/
theorem grow_new (hs : Sat M L.flatten H) {t : TypeId} {α : Type} {e : El α} {l : List α} (hl : l ≠ []) :
    ∃ s', Own t e s' l ∧ xgrow H t l.length (l.flatMap e.enc) = (.slice (segA s') l.length (segC s'), H.alloc (.row (l.flatMap e.enc) t .opn)) ∧ Sat M (s' :: L).flatten (H.alloc (.row (l.flatMap e.enc) t .opn)) ∧
      Frm L.flatten H (s' :: L).flatten (H.alloc (.row (l.flatMap e.enc) t .opn)) := by
  obtain ⟨a, b⟩ := hs.new (.row (l.flatMap e.enc) t .opn)
  exact ⟨[(H.next, .row (l.flatMap e.enc) t .opn)], .inr ⟨_, rfl, hl⟩, rfl, a, b⟩

theorem append_nil (hs : Sat M L.flatten H) {t : TypeId} {α : Type} {e : El α} {xs : List α} :
    ∃ s' H', Own t e s' xs ∧ xappendAt H t e.sz (.slice none 0 0) xs.length (xs.flatMap e.enc) = some (.slice (segA s') xs.length (segC s'), H') ∧ Sat M (s' :: L).flatten H' ∧ Frm L.flatten H (s' :: L).flatten H' := by
  cases xs with
  | nil => exact ⟨[], H, .nil _ _, rfl, hs.mono_nil, ⟨Nat.le_refl _, fun id o ho hn => ⟨ho, by simpa using hn⟩⟩⟩
  | cons x l =>
    obtain ⟨s', h1, h2, h3, h4⟩ := grow_new hs (t := t) (e := e) (l := x :: l) (by simp)
    refine ⟨s', _, h1, ?_, h3, h4⟩
    rw [← h2]
    unfold xappendAt
    simp only [Nat.zero_add, List.length_cons, Nat.beq_refl]
    rfl

/-- To a row that is full: its cells and the new ones are a new row; nothing more, nothing is done. -/
theorem append_cap (hs : Sat M L.flatten H) {t t' : TypeId} {α : Type} {e : El α} {id : Nat} {kd : Kind} {l xs : List α} (hsz : ∀ x, (e.enc x).length = e.sz) (hat : At L id (.row (l.flatMap e.enc) t' kd)) (hd : isDead kd = false) (hlt : l.length ≤ 1099511627776) :
    ∃ w L' H', ((xs = [] ∧ w = .slice (some ⟨id, 0, none⟩) l.length l.length ∧ L' = L) ∨ (xs ≠ [] ∧ ∃ s', Own t e s' (l ++ xs) ∧ w = .slice (segA s') (l ++ xs).length (segC s') ∧ L' = s' :: L)) ∧
      xappendAt H t e.sz (.slice (some ⟨id, 0, none⟩) l.length l.length) xs.length (xs.flatMap e.enc) = some (w, H') ∧ Sat M L'.flatten H' ∧ Frm L.flatten H L'.flatten H' := by
  have hop : Nat.blt l.length OPEN = true := blt_spec.2 (by unfold OPEN; omega)
  have hxc : xcells H ⟨id, 0, none⟩ (l.length * e.sz) = some (l.flatMap e.enc) := by
    unfold xcells
    simp only [hs.at hat, hd, List.drop_zero]
    exact takeX_all hsz l
  cases xs with
  | nil =>
    refine ⟨_, L, H, .inl ⟨rfl, rfl, rfl⟩, ?_, hs, Frm.refl _ _⟩
    unfold xappendAt
    have hb : Nat.ble l.length l.length = true := Nat.ble_eq_true_of_le (Nat.le_refl _)
    simp only [hop, List.length_nil, List.flatMap_nil, Nat.add_zero, hb]
  | cons x xs =>
    obtain ⟨s', h1, h2, h3, h4⟩ := grow_new hs (t := t) (e := e) (l := l ++ x :: xs) (by simp)
    refine ⟨_, s' :: L, _, .inr ⟨by simp, s', h1, rfl, rfl⟩, ?_, h3, h4⟩
    unfold xappendAt
    have hb : Nat.ble (l.length + (x :: xs).length) l.length = false := by
      cases h : Nat.ble (l.length + (x :: xs).length) l.length with
      | false => rfl
      | true =>
        have := Nat.le_of_ble_eq_true h
        simp only [List.length_cons] at this
        omega
    simp only [hop, hb, hxc]
    rw [← h2]
    simp only [List.length_append, List.flatMap_append]

theorem append_own (hs : Sat M L.flatten H) {t : TypeId} {α : Type} {e : El α} {s : Seg} {A B : List Seg} {l xs : List α} (hsz : ∀ x, (e.enc x).length = e.sz) (hfl : ∀ x, flatL (e.enc x) = true) (ho : Own t e s l) (hp : Spl L A s B) :
    ∃ s' H', Own t e s' (l ++ xs) ∧ xappendAt H t e.sz (.slice (segA s) l.length (segC s)) xs.length (xs.flatMap e.enc) = some (.slice (segA s') (l ++ xs).length (segC s'), H') ∧ Sat M (A ++ s' :: B).flatten H' ∧ Frm L.flatten H (A ++ s' :: B).flatten H' := by
  have hL := hp.eq
  rcases ho with ⟨rfl, rfl⟩ | ⟨id, rfl, hne⟩
  · have hs2 : Sat M (A ++ B).flatten H := by rw [hL] at hs; simpa using hs
    obtain ⟨s', H', h1, h2, h3, h4⟩ := append_nil hs2 (t := t) (e := e) (xs := xs)
    refine ⟨s', H', h1, h2, h3.perm (hp.perm s').symm, ?_⟩
    refine ⟨h4.nxt, fun i o hi hn => ?_⟩
    obtain ⟨k1, k2⟩ := h4.keep i o hi (fun p hp' => hn p (by rw [hL]; simpa using hp'))
    exact ⟨k1, fun p hp' => k2 p ((hp.perm s').mem_iff.1 hp')⟩
  · have hat : At L id (.row (l.flatMap e.enc) t .opn) := by
      have gen : ∀ {L A B : List Seg} {s : Seg}, Spl L A s B → ∀ {id o}, s = [(id, o)] → At L id o := by
        intro L A B s h
        induction h with
        | here => rintro id o rfl; exact .here
        | there _ ih => intro id o h; exact .there (ih h)
      exact gen hp rfl
    have hg := hs.at hat
    have hxc : xcells H ⟨id, 0, none⟩ (l.length * e.sz) = some (l.flatMap e.enc) := by
      unfold xcells
      simp only [hg, isDead, List.drop_zero]
      exact takeX_all hsz l
    have hat' : xappendAt H t e.sz (.slice (segA [(id, .row (l.flatMap e.enc) t .opn)]) l.length (segC [(id, .row (l.flatMap e.enc) t .opn)])) xs.length (xs.flatMap e.enc) =
        (match Nat.beq xs.length 0 with
          | true => some (.slice (some ⟨id, 0, none⟩) l.length OPEN, H)
          | false => some (xgrow (H.set id (.row [] t .dead)) t (l.length + xs.length) (l.flatMap e.enc ++ xs.flatMap e.enc))) := by
      unfold xappendAt
      have hb : Nat.blt OPEN OPEN = false := by
        cases h : Nat.blt OPEN OPEN with
        | false => rfl
        | true => exact absurd (blt_spec.1 h) (Nat.lt_irrefl _)
      have hoff : Nat.beq 0 ((OPEN - OPEN) * e.sz) = true := by rw [Nat.sub_self, Nat.zero_mul]; rfl
      have hlen : Nat.ble (0 + l.length * e.sz) (l.flatMap e.enc).length = true := by rw [flatMap_len hsz]; simp
      simp only [segA, segC, hb, hg, hxc, Nat.beq_refl, hoff, hlen, flatL_flatMap hfl]
      rfl
    cases xs with
    | nil =>
      refine ⟨[(id, .row (l.flatMap e.enc) t .opn)], H, ?_, ?_, by rw [← hL]; exact hs, by rw [← hL]; exact Frm.refl _ _⟩
      · rw [List.append_nil]; exact .inr ⟨id, rfl, hne⟩
      · rw [hat', List.append_nil]; rfl
    | cons x xs =>
      have hu : ∀ {L A B : List Seg} {s s' : Seg}, Spl L A s B → ∀ {id o o'}, s = [(id, o)] → s' = [(id, o')] → Upd L id o o' (A ++ s' :: B) := by
        intro L A B s s' h
        induction h with
        | here => rintro id o o' rfl rfl; exact .here
        | there _ ih => intro id o o' h1 h2; exact .there (ih h1 h2)
      obtain ⟨d1, d2⟩ := hs.upd (hu hp rfl (o' := .row [] t .dead) rfl)
      have d3 : Sat M (A ++ B).flatten (H.set id (.row [] t .dead)) := (d1.perm (hp.perm _)).sub (List.sublist_append_right _ _)
      obtain ⟨s', h1, h2, h3, h4⟩ := grow_new d3 (t := t) (e := e) (l := l ++ x :: xs) (by simp)
      refine ⟨s', _, h1, ?_, h3.perm (hp.perm s').symm, ?_⟩
      · rw [hat', ← h2]
        simp only [List.length_append, List.flatMap_append]
        rfl
      · refine ⟨Nat.le_trans d2.nxt h4.nxt, fun i o hi hn => ?_⟩
        obtain ⟨k1, k2⟩ := d2.keep i o hi hn
        obtain ⟨k3, k4⟩ := h4.keep i o k1 (fun p hp' => k2 p ((hp.perm _).mem_iff.2 (List.mem_append_right _ hp')))
        exact ⟨k3, fun p hp' => k4 p ((hp.perm s').mem_iff.1 hp')⟩
end
/- ## maps -/
/-- What a map holds by a key. -/
def mlook {κ : Type} [DecidableEq κ] (k : κ) : List (κ × Value) → Option Value
  | [] => none
  | p :: l => if k = p.1 then some p.2 else mlook k l
/-- .. and where. -/
def mfind {κ : Type} [DecidableEq κ] (k : κ) : List (κ × Value) → Nat → Option (Nat × Value)
  | [], _ => none
  | p :: l, i => if k = p.1 then some (i, p.2) else mfind k l (i + 1)
def mput {κ : Type} [DecidableEq κ] (k : κ) (v : Value) : List (κ × Value) → List (κ × Value)
  | [] => [(k, v)]
  | p :: l => if k = p.1 then (k, v) :: l else p :: mput k v l
def kvs {κ : Type} (enc : κ → Value) (l : List (κ × Value)) : List (Value × Value) := l.map fun p => (enc p.1, p.2)

theorem mfind_look {κ : Type} [DecidableEq κ] (k : κ) : ∀ (l : List (κ × Value)) (i : Nat), (mfind k l i).map (·.2) = mlook k l
  | [], _ => rfl
  | p :: l, i => by
    simp only [mfind, mlook]
    by_cases h : k = p.1
    · rw [if_pos h, if_pos h]; rfl
    · rw [if_neg h, if_neg h]; exact mfind_look k l _

structure KeyOk (P : Program) (kt : TypeId) {κ : Type} [DecidableEq κ] (enc : κ → Value) : Prop where
  clo : ∀ k, clo (enc k) = true
  chk : ∀ b k, (peel P (Instr.checkKey b 10000 kt (enc k))).isSome = true
  find : ∀ k l, xfind P kt (enc k) (kvs enc l) = some (mfind k l 0)
  bits : ∀ k, Instr.sameBits 10000 (enc k) (enc k) = true

theorem mfind_ge {κ : Type} [DecidableEq κ] (k : κ) : ∀ (l : List (κ × Value)) (i j : Nat) (v : Value), mfind k l i = some (j, v) → i ≤ j ∧ l[j - i]? = some (k, v)
  | [], _, _, _, h => by cases h
  | p :: l, i, j, v, h => by
    simp only [mfind] at h
    split at h
    · rename_i hk
      cases h
      exact ⟨Nat.le_refl _, by simp [hk]⟩
    · obtain ⟨h1, h2⟩ := mfind_ge k l (i + 1) j v h
      refine ⟨by omega, ?_⟩
      have : j - i = (j - (i + 1)) + 1 := by omega
      rw [this]; simpa using h2
theorem mput_none {κ : Type} [DecidableEq κ] (k : κ) (v : Value) : ∀ (l : List (κ × Value)) (i : Nat), mfind k l i = none → mput k v l = l ++ [(k, v)]
  | [], _, _ => rfl
  | p :: l, i, h => by
    simp only [mfind] at h
    split at h
    · cases h
    · rename_i hk
      simp only [mput, if_neg hk, mput_none k v l _ h, List.cons_append]
theorem mput_some {κ : Type} [DecidableEq κ] (k : κ) (v : Value) : ∀ (l : List (κ × Value)) (i j : Nat) (u : Value), mfind k l i = some (j, u) → mput k v l = l.set (j - i) (k, v)
  | [], _, _, _, h => by cases h
  | p :: l, i, j, u, h => by
    simp only [mfind] at h
    split at h
    · rename_i hk
      cases h
      simp [mput, hk]
    · rename_i hk
      obtain ⟨h1, _⟩ := mfind_ge k l (i + 1) j u h
      have := mput_some k v l (i + 1) j u h
      have e : j - i = (j - (i + 1)) + 1 := by omega
      simp only [mput, if_neg hk, this, e, List.set_cons_succ]

section
variable {P : Program} {T : TT} (hT : TOk P T)
include hT
theorem lookup_ok {H : Heap} {t kt et : TypeId} {κ : Type} [DecidableEq κ] {enc : κ → Value} (hk : KeyOk P kt enc) {sz0 b0 ag0 z0 tk sz tb ag z} (ht : T.get t = some ⟨.map kt et, sz0, b0, ag0, z0⟩) (he : T.get et = some ⟨tk, sz, tb, ag, z⟩) {r : Nat} {l : List (κ × Value)}
    (hg : H.get r = some (.map (kvs enc l))) (k : κ) (ok : Bool) {zv : Value} (hz : mkV ag z = some zv) : xlookup P H t (.map (some r)) (enc k) ok = some (match mlook k l, ok with
      | some v, true => .tuple #[v, .bool true]
      | some v, false => v
      | none, true => .tuple #[zv, .bool false]
      | none, false => zv) := by
  have hi := hT _ _ he
  obtain ⟨zz, z1, z2, _⟩ := hi.zero
  have hzz : zz = zv := by
    rw [z2]
    simp only
    cases ag with
    | true => simp only [mkV, Option.some.injEq] at hz; exact hz
    | false =>
      match z, hz with
      | [v], hz => simp only [mkV, Option.some.injEq] at hz; exact hz
      | [], hz => simp [mkV] at hz
      | _ :: _ :: _, hz => simp [mkV] at hz
  subst hzz
  obtain ⟨c, hc⟩ := Option.isSome_iff_exists.1 (hk.chk (kvs enc l).isEmpty k)
  have he' : xentries H (.map (some r)) = some (kvs enc l) := by simp only [xentries, hg]
  unfold xlookup
  simp only [(hT _ _ ht).map rfl, hk.clo, he', hc, hk.find]
  rw [← mfind_look k l 0]
  cases mfind k l 0 with
  | none => cases ok <;> simp only [Option.map_none, z1]
  | some p => obtain ⟨j, v⟩ := p; cases ok <;> rfl

theorem mapUpdate_ok {H : Heap} {t kt et : TypeId} {κ : Type} [DecidableEq κ] {enc : κ → Value} (hk : KeyOk P kt enc) {sz0 b0 ag0 z0} (ht : T.get t = some ⟨.map kt et, sz0, b0, ag0, z0⟩) {r : Nat} {l : List (κ × Value)}
    (hg : H.get r = some (.map (kvs enc l))) (k : κ) (v : Value) : xmapUpdate P H t (.map (some r)) (enc k) v = some (H.set r (.map (kvs enc (mput k v l)))) := by
  obtain ⟨c, hc⟩ := Option.isSome_iff_exists.1 (hk.chk false k)
  unfold xmapUpdate
  simp only [(hT _ _ ht).map rfl, hk.clo, hg, hc, hk.find]
  cases hf : mfind k l 0 with
  | none =>
    simp only
    rw [mput_none k v l 0 hf]
    simp [kvs]
  | some p =>
    obtain ⟨j, u⟩ := p
    obtain ⟨_, h2⟩ := mfind_ge k l 0 j u hf
    have e : (kvs enc l)[j]? = some (enc k, u) := by
      simp only [Nat.sub_zero] at h2
      simp [kvs, h2]
    simp only [e, hk.bits]
    rw [mput_some k v l 0 j u hf, Nat.sub_zero]
    simp [kvs, List.map_set]

omit hT in
theorem beqBA (a b : ByteArray) : (a == b) = decide (a = b) := by
  cases a; cases b
  rename_i x y
  show (x == y) = _
  rw [Bool.eq_iff_iff, beq_iff_eq, decide_eq_true_iff, ByteArray.mk.injEq]
omit hT in
theorem peel_bind {α β : Type} {m : Sem α} {f : α → Sem β} {a : α} (h : peel P m = some a) : peel P (m >>= f) = peel P (f a) := by
  induction m with
  | pure b => simp only [peel, Option.some.injEq] at h; subst h; rfl
  | program k ih => simp only [peel] at h; exact ih P h
  | mark m k ih => simp only [peel] at h; exact ih h
  | load | store | new | shape | freeze | frozen | getObj | setObj | choose | sys | halt => simp [peel] at h
omit hT in
theorem peel_under {t : TypeId} {d : TypeDesc} (h : xunder P t = some d) : peel P (underlying t) = some d := by
  unfold xunder at h
  show peel P (Sem.program _) = _
  simp only [peel, Sem.bind]
  show peel P (match P.underlying t with | some d => pure d | none => stuck "no such type") = _
  rw [h]
  rfl
theorem keyStr {kt : TypeId} {sz b ag z} (h : T.get kt = some ⟨.str, sz, b, ag, z⟩) : KeyOk P kt Value.string where
  clo _ := rfl
  chk bb k := by
    have hu := (hT _ _ h).str rfl
    rw [show (10000 : Nat) = 9999 + 1 from rfl]
    unfold Instr.checkKey
    rw [peel_bind (peel_under hu)]
    rfl
  find k l := by
    unfold xfind
    simp only [(hT _ _ h).str rfl]
    have : ∀ i, xfindNow .string (.string k) (kvs Value.string l) i = some (mfind k l i) := by
      induction l with
      | nil => intro i; rfl
      | cons p l ih =>
        intro i
        simp only [kvs, List.map_cons, xfindNow, Instr.sameNow, mfind]
        by_cases hk : k = p.1
        · rw [if_pos hk, beqBA, decide_eq_true hk]
        · rw [if_neg hk, beqBA, decide_eq_false hk]
          exact ih (i + 1)
    rw [this]
  bits k := by simp [Instr.sameBits, beqBA]
end
/-- Bytes. -/
def eY : El UInt8 := ⟨1, fun b => [.int .u8 b.toNat], 0⟩

/- ## what is made at first: by kinds -/
inductive MkEl : TK → {α : Type} → El α → α → Prop where
  | b : MkEl .bool eB false
  | i : MkEl (.int .i64) eI 0
  | s : MkEl .str eS ⟨⟨[]⟩⟩
  | v {k z} : MkEl k eV z
inductive MkMp : TK → List (Value × Value) → Prop where
  | s : MkMp .str (kvs Value.string [])
  | i {k} : MkMp (.int k) (kvs (Value.int k) [])
  | o {κ : Type} {k : TK} {enc : κ → Value} : MkMp k (kvs enc [])
inductive MkCh : TK → List Value → Prop where
  | i {k} : MkCh (.int k) (([] : List Int).map (Value.int k))
  | o {k} : MkCh k []
theorem MkMp.nil {k : TK} {l : List (Value × Value)} (h : MkMp k l) : l = [] := by cases h <;> rfl
theorem MkCh.nil {k : TK} {l : List Value} (h : MkCh k l) : l = [] := by cases h <;> rfl

/- ## equality of plain structs -/
def scalarB : TK → Value → Value → Bool
  | .int _, .int a _, .int b _ => decide (a = b)
  | .bool, .bool _, .bool _ => true
  | .str, .string _, .string _ => true
  | _, _, _ => false
def flatB (T : TT) : List (Nat × Nat) → Nat → List Value → List Value → Bool
  | [], _, [], [] => true
  | (off, ft) :: fs, i, x :: xs, y :: ys => match TT.get T ft with
    | some fi => Nat.beq off i && !fi.agg && scalarB fi.k x y && flatB T fs (i + 1) xs ys
    | none => false
  | _, _, _, _ => false

section
variable {P : Program} {T : TT} (hT : TOk P T)
include hT
theorem peel_scalar {ft : TypeId} {fi : TI} (h : T.get ft = some fi) {x y : Value} (hs : scalarB fi.k x y = true) (d : Nat) : ∃ b, (b = true ↔ x = y) ∧ peel P (Op.equalIn (d + 1) ft x y) = some b := by
  have hi := hT _ _ h
  unfold Op.equalIn
  cases hk : fi.k <;> rw [hk] at hs
  case int k =>
    cases x <;> cases y <;> first | (cases hs; done) | skip
    rename_i a p b q
    simp only [scalarB, decide_eq_true_eq] at hs
    subst hs
    rw [peel_bind (peel_under (hi.int hk))]
    simp only [if_true]
    exact ⟨p == q, by simp, rfl⟩
  case bool =>
    cases x <;> cases y <;> first | (cases hs; done) | skip
    rename_i p q
    rw [peel_bind (peel_under (hi.bool hk))]
    exact ⟨p == q, by simp, rfl⟩
  case str =>
    cases x <;> cases y <;> first | (cases hs; done) | skip
    rename_i p q
    rw [peel_bind (peel_under (hi.str hk))]
    exact ⟨p == q, by rw [beqBA]; simp, rfl⟩
  all_goals (cases hs; done)

omit hT in
theorem peel_part {ft : TypeId} (hag : xagg P ft = some false) {cs : List Value} {i : Nat} {v : Value} (hv : cs[i]? = some v) : peel P (part ft ⟨cs⟩ i) = some v := by
  unfold part
  have : peel P (isAgg ft) = some false := by
    unfold xagg at hag
    cases hu : xunder P ft with
    | none => rw [hu] at hag; cases hag
    | some d =>
      rw [hu] at hag
      unfold isAgg
      rw [peel_bind (peel_under hu)]
      cases d <;> first | rfl | (cases hag; done)
  rw [peel_bind this]
  simp only [Bool.false_eq_true, if_false]
  have h2 : (⟨cs⟩ : Array Value)[i]? = some v := by simpa using hv
  rw [h2]
  rfl

theorem peel_fields (d : Nat) (xs ys : List Value) : ∀ (fl : List Field) (fs : List (Nat × Nat)) (i : Nat) (xr yr : List Value), fl.map (fun f => (f.offset, f.type)) = fs → (∀ f ∈ fl, f.name ≠ "_") → flatB T fs i xr yr = true → xs.drop i = xr → ys.drop i = yr →
    ∃ b, (b = true ↔ xr = yr) ∧ peel P (forIn fl ((none, ()) : Option Bool × Unit) fun f __s =>
              if f.name ≠ "_" then do
                let __do_lift ← part f.type ⟨xs⟩ f.offset
                let __do_lift_1 ← part f.type ⟨ys⟩ f.offset
                let __do_lift ← Op.equalIn (d + 1) f.type __do_lift __do_lift_1
                if (!__do_lift) = true then pure (ForInStep.done (some false, ()))
                  else pure (ForInStep.yield (none, ()))
              else pure (ForInStep.yield (none, ()))) = some (match b with | true => (none, ()) | false => (some false, ())) := by
  intro fl
  induction fl with
  | nil =>
    intro fs i xr yr hm _ hb hx hy
    subst hm
    cases xr with
    | nil => cases yr with
      | nil => exact ⟨true, by simp, rfl⟩
      | cons => cases hb
    | cons => cases hb
  | cons f fl ih =>
    intro fs i xr yr hm hn hb hx hy
    subst hm
    cases xr with
    | nil => cases hb
    | cons x xr =>
      cases yr with
      | nil => cases hb
      | cons y yr =>
        simp only [List.map_cons, flatB] at hb
        split at hb
        · rename_i fi hfi
          simp only [Bool.and_eq_true, Bool.not_eq_true'] at hb
          obtain ⟨⟨⟨hoff, hag⟩, hsc⟩, hrest⟩ := hb
          have hoff := Nat.eq_of_beq_eq_true hoff
          have hxi : xs[i]? = some x := by
            have := congrArg (·[0]?) hx
            simpa using this
          have hyi : ys[i]? = some y := by
            have := congrArg (·[0]?) hy
            simpa using this
          have hx' : xs.drop (i + 1) = xr := by rw [← List.drop_drop, hx]; rfl
          have hy' : ys.drop (i + 1) = yr := by rw [← List.drop_drop, hy]; rfl
          have hagg : xagg P f.type = some false := by rw [(hT _ _ hfi).agg, hag]
          simp only [List.forIn_cons]
          have hne := hn f (.head _)
          obtain ⟨b, hb1, hb2⟩ := peel_scalar hT hfi hsc d
          obtain ⟨c, hc1, hc2⟩ := ih _ (i + 1) xr yr rfl (fun g hg => hn g (.tail _ hg)) hrest hx' hy'
          cases b with
          | true =>
            refine ⟨c, ?_, ?_⟩
            · rw [hc1, hb1.1 rfl]; simp
            · rw [peel_bind (a := ForInStep.yield ((none, ()) : Option Bool × Unit))]
              · exact hc2
              · simp only [hne, ne_eq, not_false_eq_true, if_true, hoff]
                rw [peel_bind (peel_part hagg hxi), peel_bind (peel_part hagg hyi), peel_bind hb2]
                rfl
          | false =>
            have hxy : x ≠ y := fun e => by have := hb1.2 e; cases this
            refine ⟨false, by simp [hxy], ?_⟩
            rw [peel_bind (a := ForInStep.done ((some false, ()) : Option Bool × Unit))]
            · rfl
            · simp only [hne, ne_eq, not_false_eq_true, if_true, hoff]
              rw [peel_bind (peel_part hagg hxi), peel_bind (peel_part hagg hyi), peel_bind hb2]
              rfl
        · cases hb

theorem peel_equal {t : TypeId} {fs : List (Nat × Nat)} {sz b ag z} (ht : T.get t = some ⟨.struct fs, sz, b, ag, z⟩) {xs ys : List Value} (hb : flatB T fs 0 xs ys = true) : ∃ b, (b = true ↔ xs = ys) ∧ peel P (Op.equal t (.agg ⟨xs⟩) (.agg ⟨ys⟩)) = some b := by
  obtain ⟨fl, hu, hm, hn⟩ := (hT _ _ ht).struct rfl
  unfold Op.equal
  rw [show Op.maxDepth = 9998 + 1 + 1 from rfl]
  rw [Op.equalIn]
  rw [peel_bind (peel_under hu)]
  simp only
  rw [peel_bind (a := P) rfl]
  simp only [((hT _ _ ht).eqs _ rfl).1, Bool.false_eq_true, if_false]
  rw [← Array.forIn_toList]
  obtain ⟨b, h1, h2⟩ := peel_fields hT 9998 xs ys fl.toList fs 0 xs ys hm hn hb rfl rfl
  refine ⟨b, h1, ?_⟩
  rw [peel_bind h2]
  cases b <;> rfl

omit hT in
theorem flatB_clo : ∀ {fs : List (Nat × Nat)} {i : Nat} {xs ys : List Value}, flatB T fs i xs ys = true → cloL xs = true ∧ cloL ys = true
  | [], _, [], [], _ => ⟨rfl, rfl⟩
  | [], _, [], _ :: _, h => by cases h
  | [], _, _ :: _, _, h => by cases h
  | _ :: _, _, [], _, h => by cases h
  | _ :: _, _, _ :: _, [], h => by cases h
  | (off, ft) :: fs, i, x :: xs, y :: ys, h => by
    simp only [flatB] at h
    split at h
    · rename_i fi hfi
      simp only [Bool.and_eq_true] at h
      obtain ⟨h1, h2⟩ := flatB_clo h.2
      have hs := h.1.2
      have : clo x = true ∧ clo y = true := by
        cases hk : fi.k <;> rw [hk] at hs <;> first | (cases hs; done) | skip
        all_goals (cases x <;> cases y <;> first | (cases hs; done) | exact ⟨rfl, rfl⟩)
      simp only [cloL, this.1, this.2, h1, h2, Bool.and_self, and_self]
    · cases h

theorem xbin_agg {t : TypeId} {fs : List (Nat × Nat)} {sz b ag z} (ht : T.get t = some ⟨.struct fs, sz, b, ag, z⟩) {xs ys : List Value} (hb : flatB T fs 0 xs ys = true) (xo yo : Operand) :
    ∃ b, (b = true ↔ xs = ys) ∧ xbin P .eql t xo yo (.agg ⟨xs⟩) (.agg ⟨ys⟩) = some (.bool b) ∧ xbin P .neq t xo yo (.agg ⟨xs⟩) (.agg ⟨ys⟩) = some (.bool (!b)) := by
  obtain ⟨b, h1, h2⟩ := peel_equal hT ht hb
  obtain ⟨c1, c2⟩ := flatB_clo hb
  have guard : ∀ op, (op = .eql ∨ op = .neq) → peel P (eqGuard op t xo yo (.agg ⟨xs⟩) (.agg ⟨ys⟩)) = some () := by
    intro op hop
    have hq := ((hT _ _ ht).eqs _ rfl).2
    unfold eqGuard
    rcases hop with rfl | rfl
    all_goals
      simp only [Bool.not_true, Bool.false_eq_true, if_false]
      rw [peel_bind (a := P) rfl, peel_bind (a := P) rfl]
      simp only [hq, Bool.not_false, if_true]
      rfl
  refine ⟨b, h1, ?_, ?_⟩
  · unfold xbin xbin2
    simp only [clo, cloArr, c1, c2, Bool.and_self]
    rw [peel_bind (guard _ (.inl rfl))]
    simp only [binOp]
    rw [peel_bind h2]
    rfl
  · unfold xbin xbin2
    simp only [clo, cloArr, c1, c2, Bool.and_self]
    rw [peel_bind (guard _ (.inr rfl))]
    simp only [binOp]
    rw [peel_bind h2]
    rfl
theorem xbin_bool {t : TypeId} {sz b ag z} (ht : T.get t = some ⟨.bool, sz, b, ag, z⟩) (x y : Bool) (xo yo : Operand) :
    xbin P .eql t xo yo (.bool x) (.bool y) = some (.bool (x == y)) ∧ xbin P .neq t xo yo (.bool x) (.bool y) = some (.bool (!(x == y))) := by
  have h2 : peel P (Op.equal t (.bool x) (.bool y)) = some (x == y) := by
    unfold Op.equal
    rw [show Op.maxDepth = 9999 + 1 from rfl]
    unfold Op.equalIn
    rw [peel_bind (peel_under ((hT _ _ ht).bool rfl))]
    rfl
  constructor
  · unfold xbin xbin2
    simp only [clo, Bool.and_self]
    rw [peel_bind (a := ()) rfl]
    simp only [binOp]
    rw [peel_bind h2]
    rfl
  · unfold xbin xbin2
    simp only [clo, Bool.and_self]
    rw [peel_bind (a := ()) rfl]
    simp only [binOp]
    rw [peel_bind h2]
    rfl
theorem tk_iface {t : TypeId} {sz b ag z} (ht : T.get t = some ⟨.iface, sz, b, ag, z⟩) : ∃ x, xunder P t = some (.interface x) := by
  obtain ⟨d, h1, h2⟩ := (hT _ _ ht).under
  cases d <;> first | (cases h2; done) | exact ⟨_, h1⟩
theorem xbin_nil {t : TypeId} {sz b ag z} (ht : T.get t = some ⟨.iface, sz, b, ag, z⟩) (u : TypeId) {v : Value} (hc : clo v = true) (xo yo : Operand) :
    xbin P .eql t xo yo (.iface u v) .nilIface = some (.bool false) ∧ xbin P .neq t xo yo (.iface u v) .nilIface = some (.bool true) := by
  obtain ⟨m, hm⟩ := tk_iface hT ht
  have h2 : peel P (Op.equal t (.iface u v) .nilIface) = some false := by
    unfold Op.equal
    rw [show Op.maxDepth = 9999 + 1 from rfl]
    unfold Op.equalIn
    rw [peel_bind (peel_under hm)]
    rfl
  constructor
  · unfold xbin xbin2
    simp only [clo, hc, Bool.and_self]
    rw [peel_bind (a := ()) rfl]
    simp only [binOp]
    rw [peel_bind h2]
    rfl
  · unfold xbin xbin2
    simp only [clo, hc, Bool.and_self]
    rw [peel_bind (a := ()) rfl]
    simp only [binOp]
    rw [peel_bind h2]
    rfl
theorem xbin_nil2 {t : TypeId} {sz b ag z} (ht : T.get t = some ⟨.iface, sz, b, ag, z⟩) (xo : Operand) (c : Value) :
    xbin P .eql t xo (.const c) .nilIface .nilIface = some (.bool true) ∧ xbin P .neq t xo (.const c) .nilIface .nilIface = some (.bool false) := by
  obtain ⟨m, hm⟩ := tk_iface hT ht
  have h2 : peel P (Op.equal t .nilIface .nilIface) = some true := by
    unfold Op.equal
    rw [show Op.maxDepth = 9999 + 1 from rfl]
    unfold Op.equalIn
    rw [peel_bind (peel_under hm)]
    rfl
  have guard : ∀ op, (op = .eql ∨ op = .neq) → peel P (eqGuard op t xo (.const c) .nilIface .nilIface) = some () := by
    intro op hop
    unfold eqGuard
    rcases hop with rfl | rfl
    all_goals
      simp only [Bool.not_true, Bool.false_eq_true, if_false, Bool.or_true, if_true]
      rfl
  constructor
  · unfold xbin xbin2
    simp only [clo, Bool.and_self]
    rw [peel_bind (guard _ (.inl rfl))]
    simp only [binOp]
    rw [peel_bind h2]
    rfl
  · unfold xbin xbin2
    simp only [clo, Bool.and_self]
    rw [peel_bind (guard _ (.inr rfl))]
    simp only [binOp]
    rw [peel_bind h2]
    rfl
end
/-- A struct's value, an array's. -/
def ybuildG (T : TT) (t : Nat) (parts : List (Nat × Value)) : Option Value := match TT.get T t with
  | some ⟨.array _ e, _, _, true, z⟩ => match TT.get T e with
    | some ⟨_, sz, _, ag, _⟩ => match yfillA sz ag parts z with
      | some l => some (.agg ⟨l⟩)
      | none => none
    | none => none
  | _ => ybuildT T t parts
theorem ybuildG_ok {P : Program} {T : TT} (hT : TOk P T) {t : Nat} {parts : List (Nat × Value)} {v : Value} (h : ybuildG T t parts = some v) : xfill P t parts = some v := by
  unfold ybuildG at h
  split at h
  · rename_i m e sz by' z ht
    split at h
    · rename_i tk sz' tb ag z' he
      split at h
      · rename_i l hl
        simp only [Option.some.injEq] at h
        subst h
        obtain ⟨z2, hz, hz2, _⟩ := (hT _ _ ht).zero
        simp only at hz2
        unfold xfill
        rw [hz]
        simp only [(hT _ _ ht).array rfl, (hT _ _ he).size, hz2]
        have := yfillA_ok parts _ _ hl
        simp only [Value.cells]
        rw [this]
        rfl
      · cases h
    · cases h
  · exact ybuildT_ok hT h
end
end Go.Proofs.YtibeinbfhhoeiaaGreatDoor.Ab

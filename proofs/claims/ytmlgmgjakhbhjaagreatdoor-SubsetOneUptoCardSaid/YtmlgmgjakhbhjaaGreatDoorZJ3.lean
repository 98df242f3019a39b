/- Walking code with symbolic values, 7: regions whose order is drawn, that are as good as in a row. Walking code with symbolic values: a drawn region with a look right behind an effect, that need not wait for it. Things lent to a call; slices of slices that are one's own. The bridge: an abstract heap of rows that are only read, and a contract, give a call in the world. The bridge, 2: edges in rows, out of the world. The types of the program, as a table. -/
import Derived.Test.YtmlgmgjakhbhjaaGreatDoorZJ2
import Derived.Test.YtmlgmgjakhbhjaaGreatDoorZA6
import Derived.Test.YtmlgmgjakhbhjaaGreatDoorProg
namespace Go.Proofs.YtmlgmgjakhbhjaaGreatDoor.Ab
open Go
noncomputable section

/- ## ids only grow -/
def EndN (n : Nat) : AEnd → Prop
  | .none => True
  | .ret _ H => n ≤ H.next
  | .panic _ H => n ≤ H.next
def OutN (n : Nat) : Out → Prop
  | .none => True
  | .normal _ _ H _ => n ≤ H.next
  | .exit _ _ _ H _ => n ≤ H.next
  | .ret _ _ H _ => n ≤ H.next
  | .panic _ _ _ H _ => n ≤ H.next
def HkN (hk : FuncId → Option (List Value → Heap → AEnd)) : Prop := ∀ f g args H, hk f = some g → EndN H.next (g args H)

structure NM (r : Rec) : Prop where
  code : ∀ n c F D H rc, OutN H.next (r.code n c F D H rc)
  ops : ∀ n a l F D H rc, OutN H.next (r.ops n a l F D H rc)
  call : ∀ f args H, EndN H.next (r.call f args H)
  dcall : ∀ f args H m H' m', r.dcall f args H m = some (H', m') → H.next ≤ H'.next
  defers : ∀ fn F D m H, EndN H.next (r.defers fn F D m H)

theorem xput_next {H H' : Heap} {a : Addr} {vs : List Value} (h : xput H a vs = some H') : H'.next = H.next := by
  unfold xput at h
  split at h
  · split at h
    · simp only [Option.some.injEq] at h; subst h; rfl
    · cases h
  · cases h

theorem xheap_next {P : Program} {ρ : Operand → Option Value} {H H' : Heap} {o : Oper} {v : Value} (h : xheap P ρ H o = some (v, H')) : H.next ≤ H'.next := by
  unfold xheap at h
  split at h
  · unfold xhLoad at h; split at h <;> (try split at h) <;> first | (cases h; exact Nat.le_refl _) | (cases h; exact Nat.le_succ _) | (cases h; done)
  · unfold xhStore at h
    split at h
    · split at h
      · rename_i hx
        simp only [Option.some.injEq, Prod.mk.injEq] at h
        rw [← h.2]
        unfold xstore at hx
        split at hx
        · split at hx
          · split at hx
            · rw [xput_next hx]; exact Nat.le_refl _
            · cases hx
          · cases hx
        · cases hx
      · cases h
    · cases h
  · unfold xalloc at h; split at h
    · simp only [Option.some.injEq, xnewVar, Prod.mk.injEq] at h; rw [← h.2]; exact Nat.le_succ _
    · cases h
  · unfold xhBox at h; split at h
    · simp only [Option.some.injEq, xnewVar, Prod.mk.injEq] at h; rw [← h.2]; exact Nat.le_succ _
    · cases h
  · unfold xhBuildSlice at h; split at h
    · unfold xbuildSlice at h
      repeat' split at h
      all_goals first | (cases h; exact Nat.le_refl _) | (cases h; exact Nat.le_succ _) | (cases h; done)
    · cases h
  · unfold xhMakeSlice at h; split at h
    · unfold xmakeSlice at h
      repeat' split at h
      all_goals first | (cases h; exact Nat.le_refl _) | (cases h; exact Nat.le_succ _) | (cases h; done)
    · cases h
  · unfold xhMakeMap at h; split at h
    · unfold xmakeMap at h
      repeat' split at h
      all_goals first | (cases h; exact Nat.le_refl _) | (cases h; exact Nat.le_succ _) | (cases h; done)
    · cases h
  · unfold xhMakeChan at h; split at h
    · unfold xmakeChan at h
      repeat' split at h
      all_goals first | (cases h; exact Nat.le_refl _) | (cases h; exact Nat.le_succ _) | (cases h; done)
    · cases h
  · unfold xhSlice at h; split at h
    · unfold xslice at h
      repeat' split at h
      all_goals first | (cases h; exact Nat.le_refl _) | (cases h; exact Nat.le_succ _) | (cases h; done)
    · cases h
  · unfold xhLookup at h; split at h <;> (try split at h) <;> first | (cases h; exact Nat.le_refl _) | (cases h; exact Nat.le_succ _) | (cases h; done)
  · unfold xhMapUpdate at h
    split at h
    · split at h
      · rename_i hx
        simp only [Option.some.injEq, Prod.mk.injEq] at h
        rw [← h.2]
        unfold xmapUpdate at hx
        repeat' split at hx
        all_goals first | (cases hx; exact Nat.le_refl _) | (cases hx; done)
      · cases h
    · cases h
  · unfold xhMapUpdate at h
    split at h
    · split at h
      · rename_i hx
        simp only [Option.some.injEq, Prod.mk.injEq] at h
        rw [← h.2]
        unfold xmapUpdate at hx
        repeat' split at hx
        all_goals first | (cases hx; exact Nat.le_refl _) | (cases hx; done)
      · cases h
    · cases h
  · unfold xhConv at h; split at h <;> (try split at h) <;> first | (cases h; exact Nat.le_refl _) | (cases h; exact Nat.le_succ _) | (cases h; done)
  · unfold xhCall at h
    split at h
    · unfold xhAppend at h
      split at h
      · unfold xappend at h
        repeat' split at h
        all_goals first | (cases h; done) | skip
        unfold xappendAt at h
        repeat' split at h
        all_goals first
          | (cases h; exact Nat.le_refl _)
          | (cases h; exact Nat.le_succ _)
          | (cases h; done)
          | (rename_i hx; cases h; rw [xput_next hx]; exact Nat.le_refl _)
      · cases h
    · unfold xhClear at h
      split at h
      · split at h
        · rename_i hx
          simp only [Option.some.injEq, Prod.mk.injEq] at h
          rw [← h.2]
          unfold xclear at hx
          repeat' split at hx
          all_goals first | (rw [xput_next hx]; exact Nat.le_refl _) | (cases hx; exact Nat.le_refl _) | (cases hx; done)
        · cases h
      · cases h
    · unfold xhLen at h; split at h <;> (try split at h) <;> first | (cases h; exact Nat.le_refl _) | (cases h; exact Nat.le_succ _) | (cases h; done)
    · cases h
  · cases h

/-- What only looks, leaves the heap alone. -/
theorem xheap_look {P : Program} {ρ : Operand → Option Value} {H H' : Heap} {o : Oper} {v : Value} (h : xheap P ρ H o = some (v, H'))
    (ho : (match o.op with | .load _ _ => true | .lookup _ _ _ _ => true | .convert _ _ _ => true | .call c => (match c.callee with | .builtin .len => true | _ => false) | _ => false) = true) : H' = H := by
  unfold xheap at h
  split at h
  all_goals (try (rename_i hop; rw [hop] at ho; simp only [Bool.false_eq_true] at ho; done))
  · unfold xhLoad at h; split at h <;> (try split at h) <;> first | (cases h; rfl) | (cases h; done)
  · unfold xhLookup at h; split at h <;> (try split at h) <;> first | (cases h; rfl) | (cases h; done)
  · unfold xhConv at h; split at h <;> (try split at h) <;> first | (cases h; rfl) | (cases h; done)
  · rename_i c hop
    rw [hop] at ho
    simp only at ho
    unfold xhCall at h
    split at h
    · rename_i hc; rw [hc] at ho; cases ho
    · rename_i hc; rw [hc] at ho; cases ho
    · unfold xhLen at h; split at h <;> (try split at h) <;> first | (cases h; rfl) | (cases h; done)
    · cases h
  · cases h

/-- What is made does not hang on the heap. -/
theorem xheap_fresh {P : Program} {ρ : Operand → Option Value} {H H' : Heap} {o : Oper} {v : Value} (h : xheap P ρ H o = some (v, H')) (ho : clOf o.op = .fresh) :
    ∃ obj, H' = H.alloc obj ∧ xheap P ρ ⟨.lf, H.next⟩ o = some (v, (⟨.lf, H.next⟩ : Heap).alloc obj) := by
  unfold xheap at h ⊢
  cases hop : o.op <;> rw [hop] at ho h <;> simp only [clOf, reduceCtorEq] at ho
  case call c =>
    cases hc : c.callee with
    | value f => rw [hc] at ho; cases ho
    | invoke a b => rw [hc] at ho; cases ho
    | builtin b => rw [hc] at ho; cases b <;> cases ho
  case alloc t =>
    simp only [xalloc] at h ⊢
    repeat' split at h
    all_goals first | (cases h; done) | (cases h; refine ⟨_, rfl, ?_⟩; simp only [*]; rfl) | (cases h; exact ⟨_, rfl, rfl⟩)
  case box t x =>
    simp only [xhBox] at h ⊢
    repeat' split at h
    all_goals first | (cases h; done) | (cases h; refine ⟨_, rfl, ?_⟩; simp only [*]; rfl) | (cases h; exact ⟨_, rfl, rfl⟩)
  case buildSlice t m parts =>
    simp only [xhBuildSlice, xbuildSlice] at h ⊢
    repeat' split at h
    all_goals first | (cases h; done) | (cases h; refine ⟨_, rfl, ?_⟩; simp only [*]; done) | (cases h; exact ⟨_, rfl, rfl⟩)
  case makeSlice t a b =>
    simp only [xhMakeSlice, xmakeSlice] at h ⊢
    repeat' split at h
    all_goals first | (cases h; done) | (cases h; refine ⟨_, rfl, ?_⟩; simp only [*]; done) | (cases h; exact ⟨_, rfl, rfl⟩)
  case makeMap t r =>
    simp only [xhMakeMap, xmakeMap] at h ⊢
    repeat' split at h
    all_goals first | (cases h; done) | (cases h; refine ⟨_, rfl, ?_⟩; simp only [*]; done) | (cases h; exact ⟨_, rfl, rfl⟩)
  case makeChan t x =>
    simp only [xhMakeChan, xmakeChan] at h ⊢
    repeat' split at h
    all_goals first | (cases h; done) | (cases h; refine ⟨_, rfl, ?_⟩; simp only [*]; done) | (cases h; exact ⟨_, rfl, rfl⟩)

theorem nm_none : NM Rec.none := ⟨fun _ _ _ _ _ _ => trivial, fun _ _ _ _ _ _ _ => trivial, fun _ _ _ => trivial, fun _ _ _ _ _ _ h => (Option.some_ne_none _ h.symm).elim, fun _ _ _ _ _ => trivial⟩

theorem OutN.mono {n m : Nat} (h : n ≤ m) : ∀ {o : Out}, OutN m o → OutN n o
  | .none, _ => trivial
  | .normal _ _ _ _, a => Nat.le_trans h a
  | .exit _ _ _ _ _, a => Nat.le_trans h a
  | .ret _ _ _ _, a => Nat.le_trans h a
  | .panic _ _ _ _ _, a => Nat.le_trans h a
theorem EndN.mono {n m : Nat} (h : n ≤ m) : ∀ {o : AEnd}, EndN m o → EndN n o
  | .none, _ => trivial
  | .ret _ _, a => Nat.le_trans h a
  | .panic _ _, a => Nat.le_trans h a

def OpN (n : Nat) : OpR → Prop
  | .none => True
  | .val _ _ H _ => n ≤ H.next
  | .panic _ H => n ≤ H.next

theorem soHeap_next {H : Heap} {x : Option (Value × Heap)} {D : Dl} {rc : RC} (h : ∀ v H', x = some (v, H') → H.next ≤ H'.next) : OpN H.next (soHeap x D rc) := by
  cases x with
  | none => trivial
  | some p => exact h p.1 p.2 rfl

section
variable {P : Program} {r : Rec} (h : NM r)
include h

theorem nm_stepOp (o : Oper) (F : Fr) (D : Dl) (H : Heap) (rc : RC) : OpN H.next (stepOp P r o F D H rc) := by
  by_cases hp : plainOp o.op = true
  · rw [stepOp_plain hp]
    refine soHeap_next fun v H' hx => ?_
    unfold xop at hx
    split at hx
    · exact xheap_next hx
    · split at hx
      · cases hx; exact Nat.le_refl _
      · exact xheap_next hx
  · unfold stepOp
    cases hop : o.op <;> rw [hop] at hp <;> first | exact absurd rfl hp | skip
    case call c =>
      show OpN H.next (soCall P r (F.ev P) c o.type D H rc)
      unfold soCall
      cases hc : c.callee with
      | value fo =>
        simp only
        unfold soValue
        split
        · split
          · unfold soEnter
            split
            · rename_i f l _
              have := h.call f l H
              cases hx : r.call f l H with
              | none => trivial
              | ret v H' => rw [hx] at this; exact this
              | panic v H' => rw [hx] at this; exact this
            · trivial
          · trivial
        · trivial
      | invoke a b => trivial
      | builtin b =>
        simp only [plainOp, hc] at hp
        cases b <;> first | exact absurd rfl hp | skip
        show OpN H.next (soRecover D H rc)
        unfold soRecover
        split <;> first | trivial | exact Nat.le_refl _
    case defer c =>
      show OpN H.next (soDefer (F.ev P) c D H rc)
      unfold soDefer
      split
      · split
        · split
          · exact Nat.le_refl _
          · trivial
        · trivial
      · trivial
    case panic x =>
      show OpN H.next (soPanic (F.ev P x) H)
      unfold soPanic
      split
      · exact Nat.le_refl _
      · trivial
    case send c x =>
      show OpN H.next (soSend (F.ev P) c x D H rc)
      unfold soSend
      split
      · split
        · rename_i hx
          unfold xsend at hx
          repeat' split at hx
          all_goals first | (cases hx; exact Nat.le_refl _) | (cases hx; done)
        · trivial
      · trivial
    case select cs bl =>
      show OpN H.next (soHeap (xselect1 P (F.ev P) H cs.toList bl) D rc)
      refine soHeap_next fun v H' hx => ?_
      unfold xselect1 at hx
      repeat' split at hx
      all_goals first | (cases hx; exact Nat.le_refl _) | (cases hx; done)

theorem nm_soNext (n : Nat) (a : Array Oper) (rest : List Oper) (dst : Option Tmp) (v : Value) (F : Fr) (D : Dl) (H : Heap) (rc : RC) : OutN H.next (soNext r n a rest dst v F D H rc) := by
  unfold soNext
  split
  · split
    · trivial
    · exact h.ops _ _ _ _ _ _ _
  · exact h.ops _ _ _ _ _ _ _

theorem nm_stepOps (n : Nat) (a : Array Oper) (l : List Oper) (F : Fr) (D : Dl) (H : Heap) (rc : RC) : OutN H.next (stepOps P r n a l F D H rc) := by
  unfold stepOps
  split
  · exact Nat.le_refl _
  · rename_i o rest
    split
    · have hop := nm_stepOp (P := P) h o F D H rc
      unfold soThen
      split
      · rename_i hx
        rw [hx] at hop
        exact (nm_soNext h _ _ _ _ _ _ _ _ _).mono hop
      · rename_i hx; rw [hx] at hop; exact hop
      · trivial
    · exact nm_soNext h _ _ _ _ _ _ _ _ _
    · trivial

omit h in
theorem nm_dStep (n : Nat) (a : Array Oper) (i m : Nat) (o : Oper) (F : Fr) (H : Heap) (As : List Fresh) (next : Nat) (Es : List Was) (Rs : List Looked) (s : DS) (hd : dStep P r n a i m o F H As next Es Rs = some s) : next ≤ s.next := by
  have pur : ∀ {x : Option Value} {s : DS}, dPure n o x F H As next Es Rs = some s → next ≤ s.next := by
    intro x s h
    unfold dPure at h
    repeat' split at h
    all_goals first | (cases h; exact Nat.le_refl _) | (cases h; done)
  have red : ∀ {s : DS}, dRead P n i m o F H As next Es Rs = some s → next ≤ s.next := by
    intro s h
    unfold dRead at h
    repeat' split at h
    all_goals first | (cases h; exact Nat.le_refl _) | (cases h; done)
  have eff : ∀ {x : Heap → Option (Value × Heap)} {s : DS}, dEffect P n i m o x F H As next Es Rs = some s → next ≤ s.next := by
    intro x s h
    unfold dEffect at h
    repeat' split at h
    all_goals first | (cases h; apply Nat.le_of_ble_eq_true; assumption) | (cases h; done)
  unfold dStep at hd
  split at hd
  · unfold dOp at hd
    split at hd
    · exact pur hd
    · exact red hd
    · split at hd
      · exact pur hd
      · exact red hd
    · unfold dFresh at hd
      repeat' split at hd
      all_goals first | (cases hd; exact Nat.le_succ _) | (cases hd; done)
    · exact eff hd
    · split at hd
      · exact eff hd
      · cases hd
    · cases hd
  · exact pur hd
  · cases hd

omit h in
theorem nm_dOps (n : Nat) (a : Array Oper) : ∀ (l : List Oper) (ms : List Nat) (i : Nat) (d s : DS), dOps P r n a l ms i d = some s → d.next ≤ s.next := by
  intro l
  induction l with
  | nil => intro ms i d s hd; cases ms <;> (simp only [dOps, Option.some.injEq] at hd; subst hd; exact Nat.le_refl _)
  | cons o l ih =>
    intro ms i d s hd
    cases ms with
    | nil => cases hd
    | cons m ms =>
      simp only [dOps] at hd
      split at hd
      · rename_i d' hd'
        exact Nat.le_trans (nm_dStep _ _ _ _ _ _ _ _ _ _ _ _ hd') (ih _ _ _ _ hd)
      · cases hd

theorem nm_stepCode (n : Nat) (c : Code) (F : Fr) (D : Dl) (H : Heap) (rc : RC) : OutN H.next (stepCode P r n c F D H rc) := by
  have seq : ∀ {x : Out} {b : Code}, OutN H.next x → OutN H.next (scSeq r n b x) := by
    intro x b hx
    cases x with
    | normal F' D' H' rc' => exact (h.code _ _ _ _ _ _).mono hx
    | _ => exact hx
  unfold stepCode
  cases c with
  | region id ops draw =>
    cases draw with
    | false => exact h.ops _ _ _ _ _ _ _
    | true =>
      show OutN H.next (stepDraw P r n ops F D H rc)
      unfold stepDraw
      split
      · split
        · rename_i s hs
          exact nm_dOps _ _ _ _ _ _ _ hs
        · trivial
      · trivial
  | seq a b => exact seq (h.code _ _ _ _ _ _)
  | loop b => exact seq (h.code _ _ _ _ _ _)
  | cond c a b =>
    simp only [codeFn, scCond]
    split
    · exact h.code _ _ _ _ _ _
    · exact h.code _ _ _ _ _ _
    · trivial
  | block id b =>
    have := h.code n b F D H rc
    simp only [codeFn]
    unfold scBlock
    split
    · rename_i hx; rw [hx] at this; split <;> exact this
    · rename_i hx; rw [hx] at this; exact this
    · rename_i hx; rw [hx] at this; exact this
    · rename_i hx; rw [hx] at this; exact this
    · trivial
  | skip => exact Nat.le_refl _
  | label l => exact Nat.le_refl _
  | exit id => exact Nat.le_refl _
  | ret => exact Nat.le_refl _
  | _ => trivial

theorem nm_scLeave (fn : Func) {n : Nat} {x : Out} (hx : OutN n x) : EndN n (scLeave r fn x) := by
  cases x with
  | normal F' D' H' rc' => exact (h.defers _ _ _ _ _).mono hx
  | ret F' D' H' rc' => exact (h.defers _ _ _ _ _).mono hx
  | panic v F' D' H' rc' => exact (h.defers _ _ _ _ _).mono hx
  | _ => trivial

theorem nm_stepCall {hk : FuncId → Option (List Value → Heap → AEnd)} (hn : HkN hk) (f : FuncId) (args : List Value) (H : Heap) : EndN H.next (stepCall P r hk f args H) := by
  unfold stepCall
  split
  · rename_i g hg; exact hn _ _ _ _ hg
  · split
    · split
      · exact nm_scLeave h _ (h.code _ _ _ _ _ _)
      · trivial
    · trivial

theorem nm_stepDcall (f : FuncId) (args : List Value) (H : Heap) (m : RC) (H' : Heap) (m' : RC) (hd : stepDcall P r f args H m = some (H', m')) : H.next ≤ H'.next := by
  unfold stepDcall at hd
  split at hd
  · cases hd
  · split at hd
    · split at hd
      · rename_i fn c _ _ _ _ _
        have := h.code fn.ntmps c (putArgs 0 args .lf) [] H m
        unfold scDone at hd
        split at hd
        · rename_i hx
          rw [hx] at this
          obtain ⟨rfl, _⟩ := scKeep_spec hd
          exact this
        · rename_i hx
          rw [hx] at this
          obtain ⟨rfl, _⟩ := scKeep_spec hd
          exact this
        · cases hd
      · cases hd
    · cases hd

theorem nm_stepDefers (fn : Func) (F : Fr) (D : Dl) (m : RC) (H : Heap) : EndN H.next (stepDefers P r fn F D m H) := by
  unfold stepDefers
  split
  · split
    · split
      · exact Nat.le_refl _
      · trivial
    · exact Nat.le_refl _
    · trivial
  · split
    · rename_i hd
      exact (h.defers _ _ _ _ _).mono (h.dcall _ _ _ _ _ _ hd)
    · trivial
end

theorem nm_run (P : Program) {hk : FuncId → Option (List Value → Heap → AEnd)} (hn : HkN hk) (k : Nat) : NM (run P hk k) := by
  induction k with
  | zero => exact nm_none
  | succ k ih =>
    exact {
      code := fun n c F D H rc => nm_stepCode ih n c F D H rc
      ops := fun n a l F D H rc => nm_stepOps ih n a l F D H rc
      call := fun f args H => nm_stepCall ih hn f args H
      dcall := fun f args H m H' m' hd => nm_stepDcall ih f args H m H' m' hd
      defers := fun fn F D m H => nm_stepDefers ih fn F D m H }

/- ## as good as in a row -/
def isLk : Cl → Bool
  | .read => true
  | .conv => true
  | _ => false
def isEf : Cl → Bool
  | .effect => true
  | .call => true
  | _ => false
def isFr : Cl → Bool
  | .fresh => true
  | _ => false
/-- Must c wait for e? -/
def waits (e c : Cl) : Bool := ((isFr e || isEf e) && (isLk c || isEf c)) || (isLk e && isEf c)
def okOp (o : Oper) : Bool := match o.op with
  | .slice _ _ _ _ _ => false
  | op => match clOf op with
    | .other => false
    | _ => true
def serialAt (c : Cl) (m : Nat) : List (Nat × Cl) → Bool
  | [] => true
  | (j, e) :: l => (!waits e c || bit m j) && serialAt c m l
def serialL : List Oper → List Nat → Nat → List (Nat × Cl) → Bool
  | [], _, _, _ => true
  | o :: l, m :: ms, i, acc => okOp o && serialAt (clOf o.op) m acc && serialL l ms (i + 1) ((i, clOf o.op) :: acc)
  | _ :: _, [], _, _ => false
def serialB (a : Array Oper) : Bool := serialL a.toList (befores a) 0 []

/-- .. and of what has been looked at, f may be looked at again later. -/
def serialAtF (c : Cl) (m : Nat) (f g : Nat → Bool) : List (Nat × Cl) → Bool
  | [] => true
  | (j, e) :: l => (!waits e c || bit m j || (isLk e && f j) || (isLk c && isEf e && g j)) && serialAtF c m f g l
theorem serialAtF_spec {c : Cl} {m : Nat} {f g : Nat → Bool} : ∀ {acc : List (Nat × Cl)}, serialAtF c m f g acc = true → ∀ p ∈ acc, waits p.2 c = true → bit m p.1 = true ∨ (isLk p.2 = true ∧ f p.1 = true) ∨ ((isLk c = true ∧ isEf p.2 = true) ∧ g p.1 = true)
  | [], _, p, hp, _ => by cases hp
  | (j, e) :: l, h, p, hp, hw => by
    simp only [serialAtF, Bool.and_eq_true, Bool.or_eq_true] at h
    cases hp with
    | head => rcases h.1 with ((h1 | h1) | h1) | h1
              · have hw : waits e c = true := hw
                rw [hw] at h1; cases h1
              · exact .inl h1
              · exact .inr (.inl h1)
              · exact .inr (.inr h1)
    | tail _ hp => exact serialAtF_spec h.2 p hp hw
theorem serialAt_spec {c : Cl} {m : Nat} : ∀ {acc : List (Nat × Cl)}, serialAt c m acc = true → ∀ p ∈ acc, waits p.2 c = true → bit m p.1 = true
  | [], _, p, hp, _ => by cases hp
  | (j, e) :: l, h, p, hp, hw => by
    simp only [serialAt, Bool.and_eq_true, Bool.or_eq_true] at h
    cases hp with
    | head => rcases h.1 with h1 | h1
              · have hw : waits e c = true := hw
                rw [hw] at h1; cases h1
              · exact h1
    | tail _ hp => exact serialAt_spec h.2 p hp hw

theorem chained_all {m : Nat} : ∀ {l : List Was}, (∀ e ∈ l, bit m e.ix = true) → chained m l = true
  | [], _ => rfl
  | e :: l, h => by simp only [chained, h e (.head _)]; exact chained_all fun x hx => h x (.tail _ hx)
theorem forth_all {P : Program} {H : Heap} {m : Nat} : ∀ {l : List Looked}, (∀ e ∈ l, bit m e.ix = true) → forth P H m l = true
  | [], _ => rfl
  | e :: l, h => by simp only [forth, h e (.head _)]; exact forth_all fun x hx => h x (.tail _ hx)
theorem back_all {P : Program} {F : Fr} {o : Oper} {v : Value} {m : Nat} {As : List Fresh} {next : Nat} : ∀ {l : List Was}, (∀ e ∈ l, bit m e.ix = true) → back P F o v m As next l = true
  | [], _ => rfl
  | e :: l, h => by simp only [back, h e (.head _)]; exact back_all fun x hx => h x (.tail _ hx)
theorem covers_all {base m : Nat} : ∀ {l : List Fresh}, (∀ e ∈ l, bit m e.ix = true) → covers base m l = true
  | [], _ => rfl
  | e :: l, h => by
    simp only [covers, h e (.head _)]
    have := covers_all (base := base) fun x hx => h x (.tail _ hx)
    split <;> exact this
theorem viewT_old {t : Tr AObj} {base : Nat} {p : Nat → Bool} : ∀ {l : List Fresh}, (∀ e ∈ l, e.id < base) → viewT t base p l = t
  | [], _ => rfl
  | e :: l, h => by
    have : Nat.ble base e.id = false := by
      cases hb : Nat.ble base e.id with
      | false => rfl
      | true => have := Nat.le_of_ble_eq_true hb; have := h e (.head _); omega
    simp only [viewT, this]
    exact viewT_old fun x hx => h x (.tail _ hx)

def vw (H : Heap) (As : List Fresh) (next : Nat) : Heap := ⟨viewT H.t H.next (fun _ => true) As, next⟩

theorem soCall_D {P : Program} {r : Rec} {ρ : Operand → Option Value} {c : Call} {ty : TypeId} {D D' : Dl} {H H' : Heap} {rc rc' : RC} {v : Value} {fo : Operand} (hc : c.callee = .value fo) (h : soCall P r ρ c ty D H rc = .val v D' H' rc') :
    D' = D ∧ rc' = rc ∧ dEnd (soCall P r ρ c ty [] H .norm) = some (v, H') := by
  have e : ∀ D rc, soCall P r ρ c ty D H rc = soValue r ρ fo c.args D H rc := fun D rc => by unfold soCall; rw [hc]
  rw [e] at h
  rw [e]
  cases hf : ρ fo with
  | none => unfold soValue at h; rw [hf] at h; cases h
  | some f =>
    cases hl : xlist ρ c.args.toList with
    | none => unfold soValue at h; rw [hf] at h; simp only [hl] at h; cases h
    | some l =>
      have e2 : ∀ D rc, soValue r ρ fo c.args D H rc = soEnter r (callee f l) D H rc := fun D rc => by unfold soValue; rw [hf]; simp only [hl]
      rw [e2] at h
      rw [e2]
      cases hg : callee f l with
      | none => rw [hg] at h; cases h
      | some p =>
        obtain ⟨g, l'⟩ := p
        rw [hg] at h
        unfold soEnter at h ⊢
        simp only at h ⊢
        cases hx : r.call g l' H with
        | none => rw [hx] at h; cases h
        | ret u H1 => rw [hx] at h; cases h; exact ⟨rfl, rfl, rfl⟩
        | panic u H1 => rw [hx] at h; cases h

theorem plain_of {op : Op} (h : clOf op ≠ .other) (h' : clOf op ≠ .call) : plainOp op = true := by
  cases op <;> first | rfl | (simp only [clOf, ne_eq, not_true_eq_false] at h; done) | skip
  rename_i c
  cases hc : c.callee with
  | value f => exact absurd (by simp only [clOf, hc]) h'
  | invoke a b => exact absurd (by simp only [clOf, hc]) h
  | builtin b => cases b <;> first | rfl | (simp only [plainOp, hc]; done) | exact absurd (by simp only [clOf, hc]) h

/-- One step. -/
theorem forth_some {P : Program} {H : Heap} {m : Nat} : ∀ {l : List Looked}, (∀ e ∈ l, bit m e.ix = true ∨ looks P (e.F.ev P) H e.o e.v = true) → forth P H m l = true
  | [], _ => rfl
  | e :: l, h => by
    have ih := forth_some fun x hx => h x (.tail _ hx)
    rcases h e (.head _) with h1 | h1
    · simp only [forth, h1]; exact ih
    · simp only [forth, h1, ih]; cases bit m e.ix <;> rfl
theorem back_some {P : Program} {F : Fr} {o : Oper} {v : Value} {m : Nat} {As : List Fresh} {next : Nat} : ∀ {l : List Was}, (∀ e ∈ l, bit m e.ix = true ∨ looks P (F.ev P) ⟨viewT e.H.t e.H.next (bit m) As, next⟩ o v = true) → back P F o v m As next l = true
  | [], _ => rfl
  | e :: l, h => by
    have ih := back_some fun x hx => h x (.tail _ hx)
    rcases h e (.head _) with h1 | h1
    · simp only [back, h1]; exact ih
    · simp only [back, h1, ih]; cases bit m e.ix <;> rfl
theorem serialAtF_of {c : Cl} {m : Nat} : ∀ {acc : List (Nat × Cl)}, serialAt c m acc = true → serialAtF c m (fun _ => false) (fun _ => false) acc = true
  | [], _ => rfl
  | (j, e) :: l, h => by
    simp only [serialAt, serialAtF, Bool.and_eq_true] at h ⊢
    exact ⟨by rw [Bool.and_false, Bool.or_false, Bool.and_false, Bool.or_false]; exact h.1, serialAtF_of h.2⟩
/-- Nothing writes d or x. -/
def noW (d x : Nat) : List Oper → Bool
  | [] => true
  | o :: l => (match o.dst with
    | some e => !Nat.beq e d && !Nat.beq e x
    | none => true) && noW d x l
/-- What a load yields, and where it looked, is not written behind it. -/
def keepL : List Oper → Bool
  | [] => true
  | o :: l => (match o.dst, o.op with
    | some d, .load _ (.tmp x) => !Nat.beq d x && noW d x l
    | _, _ => true) && keepL l
/-- What is known of what has been looked at. -/
def RsOk (a : Array Oper) (F : Fr) (l : List Oper) (Rs : List Looked) : Prop :=
  ∀ q ∈ Rs, nth q.ix a.toList = some q.o ∧ ∀ d t x, q.o.dst = some d → q.o.op = .load t (.tmp x) → F.get d = some q.v ∧ q.F.get x = F.get x ∧ noW d x l = true
theorem serial_step {P : Program} {r : Rec} (hnm : NM r) {n i m : Nat} {a : Array Oper} {o : Oper} {F : Fr} {H : Heap} {As : List Fresh} {next : Nat} {Es : List Was} {Rs : List Looked} {acc : List (Nat × Cl)} {D D' : Dl} {rc rc' : RC} {v : Value} {H' : Heap}
    (hok : okOp o = true) {fl gl : Nat → Bool} (hat : serialAtF (clOf o.op) m fl gl acc = true) (hA : ∀ A ∈ As, (∃ c, (A.ix, c) ∈ acc ∧ isFr c = true) ∧ A.id < next) (hE : ∀ e ∈ Es, ∃ c, (e.ix, c) ∈ acc ∧ isEf c = true) (hR : ∀ q ∈ Rs, ∃ c, (q.ix, c) ∈ acc ∧ isLk c = true) (hnx : H.next ≤ next)
    (hd : dstOk n o.dst = true) (hg : guardB a F o.guard = some true) (hs : stepOp P r o F D (vw H As next) rc = .val v D' H' rc') (hlk : ∀ q ∈ Rs, fl q.ix = true → looks P (q.F.ev P) H' q.o q.v = true)
    (hbk : ∀ e ∈ Es, gl e.ix = true → isLk (clOf o.op) = true → looks P (F.ev P) ⟨viewT e.H.t e.H.next (bit m) As, next⟩ o v = true) :
    D' = D ∧ rc' = rc ∧ ∃ s, dStep P r n a i m o F H As next Es Rs = some s ∧ s.F = F.put o.dst v ∧ vw s.H s.As s.next = H' ∧ s.H.next ≤ s.next ∧
      (∀ A ∈ s.As, (∃ c, (A.ix, c) ∈ (i, clOf o.op) :: acc ∧ isFr c = true) ∧ A.id < s.next) ∧ (∀ e ∈ s.Es, ∃ c, (e.ix, c) ∈ (i, clOf o.op) :: acc ∧ isEf c = true) ∧ (∀ q ∈ s.Rs, ∃ c, (q.ix, c) ∈ (i, clOf o.op) :: acc ∧ isLk c = true) ∧ (s.Rs = Rs ∨ s.Rs = ⟨i, o, v, F⟩ :: Rs) := by
  have hput : dput n F o.dst v = some (F.put o.dst v) := by
    unfold dput
    cases hdst : o.dst with
    | none => rfl
    | some d =>
      rw [hdst] at hd
      simp only [dstOk] at hd
      split at hd
      · cases hd
      · rename_i hb; simp only [hb]; rfl
  have hA' : ∀ A ∈ As, (∃ c, (A.ix, c) ∈ (i, clOf o.op) :: acc ∧ isFr c = true) ∧ A.id < next := fun A hx => let ⟨⟨c, h1, h2⟩, h3⟩ := hA A hx; ⟨⟨c, .tail _ h1, h2⟩, h3⟩
  have hE' : ∀ e ∈ Es, ∃ c, (e.ix, c) ∈ (i, clOf o.op) :: acc ∧ isEf c = true := fun A hx => let ⟨c, h1, h2⟩ := hE A hx; ⟨c, .tail _ h1, h2⟩
  have hR' : ∀ q ∈ Rs, ∃ c, (q.ix, c) ∈ (i, clOf o.op) :: acc ∧ isLk c = true := fun A hx => let ⟨c, h1, h2⟩ := hR A hx; ⟨c, .tail _ h1, h2⟩
  have bA : isLk (clOf o.op) = true ∨ isEf (clOf o.op) = true → ∀ A ∈ As, bit m A.ix = true := fun hc A hx => by
    obtain ⟨⟨c, h1, h2⟩, _⟩ := hA A hx
    rcases serialAtF_spec hat _ h1 (by unfold waits; rcases hc with hc | hc <;> simp [h2, hc]) with h | ⟨h, _⟩ | ⟨⟨_, h⟩, _⟩
    · exact h
    · cases c <;> simp [isFr, isLk] at h2 h
    · cases c <;> simp [isFr, isEf] at h2 h
  have bE : isEf (clOf o.op) = true → ∀ A ∈ Es, bit m A.ix = true := fun hc A hx => by
    obtain ⟨c, h1, h2⟩ := hE A hx
    rcases serialAtF_spec hat _ h1 (by unfold waits; simp [h2, hc]) with h | ⟨h, _⟩ | ⟨⟨h, _⟩, _⟩
    · exact h
    · cases c <;> simp [isEf, isLk] at h2 h
    · cases hcc : clOf o.op <;> rw [hcc] at hc h <;> simp [isEf, isLk] at hc h
  have bL : isLk (clOf o.op) = true → ∀ A ∈ Es, bit m A.ix = true ∨ looks P (F.ev P) ⟨viewT A.H.t A.H.next (bit m) As, next⟩ o v = true := fun hc A hx => by
    obtain ⟨c, h1, h2⟩ := hE A hx
    rcases serialAtF_spec hat _ h1 (by unfold waits; simp [h2, hc]) with h | ⟨h, _⟩ | ⟨_, h⟩
    · exact .inl h
    · cases c <;> simp [isEf, isLk] at h2 h
    · exact .inr (hbk A hx h hc)
  have bR : isEf (clOf o.op) = true → forth P H' m Rs = true := fun hc => by
    refine forth_some fun q hq => ?_
    obtain ⟨c, h1, h2⟩ := hR q hq
    rcases serialAtF_spec hat _ h1 (by unfold waits; simp [h2, hc]) with h | ⟨_, h⟩ | ⟨⟨h, _⟩, _⟩
    · exact .inl h
    · exact .inr (hlk q hq h)
    · cases hcc : clOf o.op <;> rw [hcc] at hc h <;> simp [isEf, isLk] at hc h
  have hview : (∀ A ∈ As, bit m A.ix = true) → (⟨viewT H.t H.next (bit m) As, next⟩ : Heap) = vw H As next := fun hb => by
    unfold vw
    rw [viewT_congr (p := bit m) (q := fun _ => true) fun A hx => hb A hx]
  -- plain operations
  have plain : clOf o.op ≠ .call → D' = D ∧ rc' = rc ∧ xop P (F.ev P) (vw H As next) o = some (v, H') := by
    intro hcl
    have hne : clOf o.op ≠ .other := fun e => by
      unfold okOp at hok
      split at hok
      · cases hok
      · rw [e] at hok; cases hok
    rw [stepOp_plain (plain_of hne hcl)] at hs
    cases hx : xop P (F.ev P) (vw H As next) o with
    | none => rw [hx] at hs; cases hs
    | some p => obtain ⟨u, H1⟩ := p; rw [hx] at hs; cases hs; exact ⟨rfl, rfl, rfl⟩
  have effect : ∀ {x : Heap → Option (Value × Heap)}, isEf (clOf o.op) = true → x (vw H As next) = some (v, H') → next ≤ H'.next →
      ∃ s, dEffect P n i m o x F H As next Es Rs = some s ∧ s.F = F.put o.dst v ∧ vw s.H s.As s.next = H' ∧ s.H.next ≤ s.next ∧
        (∀ A ∈ s.As, (∃ c, (A.ix, c) ∈ (i, clOf o.op) :: acc ∧ isFr c = true) ∧ A.id < s.next) ∧ (∀ e ∈ s.Es, ∃ c, (e.ix, c) ∈ (i, clOf o.op) :: acc ∧ isEf c = true) ∧ (∀ q ∈ s.Rs, ∃ c, (q.ix, c) ∈ (i, clOf o.op) :: acc ∧ isLk c = true) ∧ (s.Rs = Rs ∨ s.Rs = ⟨i, o, v, F⟩ :: Rs) := by
    intro x hc hx hle
    unfold dEffect
    simp only [chained_all (bE hc), covers_all (bA (.inr hc)), hview (bA (.inr hc)), hx, bR hc, hput]
    have hb : Nat.ble next H'.next = true := Nat.ble_eq_true_of_le hle
    simp only [hb]
    refine ⟨_, rfl, rfl, ?_, Nat.le_refl _, fun A hx => ⟨(hA' A hx).1, Nat.lt_of_lt_of_le (hA' A hx).2 hle⟩, ?_, hR', .inl rfl⟩
    · unfold vw
      rw [viewT_old fun A hx => Nat.lt_of_lt_of_le (hA A hx).2 hle]
    · intro e he
      cases he with
      | head => exact ⟨_, .head _, hc⟩
      | tail _ he => exact hE' e he
  have look : isLk (clOf o.op) = true → xheap P (F.ev P) (vw H As next) o = some (v, H') → H' = vw H As next →
      ∃ s, dRead P n i m o F H As next Es Rs = some s ∧ s.F = F.put o.dst v ∧ vw s.H s.As s.next = H' ∧ s.H.next ≤ s.next ∧
        (∀ A ∈ s.As, (∃ c, (A.ix, c) ∈ (i, clOf o.op) :: acc ∧ isFr c = true) ∧ A.id < s.next) ∧ (∀ e ∈ s.Es, ∃ c, (e.ix, c) ∈ (i, clOf o.op) :: acc ∧ isEf c = true) ∧ (∀ q ∈ s.Rs, ∃ c, (q.ix, c) ∈ (i, clOf o.op) :: acc ∧ isLk c = true) ∧ (s.Rs = Rs ∨ s.Rs = ⟨i, o, v, F⟩ :: Rs) := by
    intro hc hx he
    subst he
    unfold dRead
    have hl : xlook P (F.ev P) (vw H As next) o = some v := by
      unfold xlook
      simp only [hx, Nat.beq_refl]
    simp only [hview (bA (.inl hc)), hl, back_some (bL hc), hput]
    refine ⟨_, rfl, rfl, rfl, hnx, hA', hE', ?_, .inr rfl⟩
    intro q hq
    cases hq with
    | head => exact ⟨_, .head _, hc⟩
    | tail _ hq => exact hR' q hq
  have pur : ∀ {x : Option Value}, x = some v → H' = vw H As next → ∃ s, dPure n o x F H As next Es Rs = some s ∧ s.F = F.put o.dst v ∧ vw s.H s.As s.next = H' ∧ s.H.next ≤ s.next ∧
        (∀ A ∈ s.As, (∃ c, (A.ix, c) ∈ (i, clOf o.op) :: acc ∧ isFr c = true) ∧ A.id < s.next) ∧ (∀ e ∈ s.Es, ∃ c, (e.ix, c) ∈ (i, clOf o.op) :: acc ∧ isEf c = true) ∧ (∀ q ∈ s.Rs, ∃ c, (q.ix, c) ∈ (i, clOf o.op) :: acc ∧ isLk c = true) ∧ (s.Rs = Rs ∨ s.Rs = ⟨i, o, v, F⟩ :: Rs) := by
    intro x hx he
    subst hx
    subst he
    unfold dPure
    simp only [hput]
    exact ⟨_, rfl, rfl, rfl, hnx, hA', hE', hR', .inl rfl⟩
  unfold dStep
  simp only [hg]
  unfold dOp
  cases hcl : clOf o.op with
  | other =>
    unfold okOp at hok
    split at hok
    · cases hok
    · rw [hcl] at hok; cases hok
  | pure =>
    obtain ⟨h1, h2, h3⟩ := plain (by rw [hcl]; simp)
    rw [hcl] at pur
    refine ⟨h1, h2, ?_⟩
    have : xpure P (F.ev P) o = some v ∧ H' = vw H As next := by
      unfold xop at h3
      have hmem : memOp o.op = false := by cases hop : o.op <;> rw [hop] at hcl <;> first | rfl | (simp only [clOf, reduceCtorEq] at hcl; done)
      simp only [hmem] at h3
      cases hx : xpure P (F.ev P) o with
      | some u => rw [hx] at h3; cases h3; exact ⟨rfl, rfl⟩
      | none =>
        rw [hx] at h3
        simp only at h3
        exfalso
        unfold xheap at h3
        cases hop : o.op <;> rw [hop] at hcl h3 <;> first | (simp only [clOf, reduceCtorEq] at hcl; done) | (cases h3; done) | skip
        rename_i c
        have h3 : xhCall P (F.ev P) (vw H As next) c = some (v, H') := h3
        unfold xhCall at h3
        cases hc : c.callee with
        | value f => rw [hc] at h3; cases h3
        | invoke a b => rw [hc] at h3; cases h3
        | builtin b =>
          simp only [clOf, hc] at hcl
          rw [hc] at h3
          cases b <;> first | (cases h3; done) | (cases hcl; done)
    exact pur this.1 this.2
  | read =>
    obtain ⟨h1, h2, h3⟩ := plain (by rw [hcl]; simp)
    rw [hcl] at look
    refine ⟨h1, h2, ?_⟩
    have hx : xheap P (F.ev P) (vw H As next) o = some (v, H') := by
      unfold xop at h3
      have hmem : memOp o.op = true := by
        cases hop : o.op <;> rw [hop] at hcl <;> first | rfl | (simp only [clOf, reduceCtorEq] at hcl; done) | skip
        rename_i c
        cases hc : c.callee with
        | value f => simp only [clOf, hc, reduceCtorEq] at hcl
        | invoke a b => simp only [clOf, hc, reduceCtorEq] at hcl
        | builtin b => simp only [clOf, hc] at hcl; cases b <;> cases hcl
      simpa only [hmem] using h3
    refine look rfl hx (xheap_look hx ?_)
    unfold okOp at hok
    cases hop : o.op <;> rw [hop] at hcl hok <;> first | rfl | (simp only [clOf, reduceCtorEq] at hcl; done) | (cases hok; done) | skip
    rename_i c
    cases hc : c.callee with
    | value f => simp only [clOf, hc, reduceCtorEq] at hcl
    | invoke a b => simp only [clOf, hc, reduceCtorEq] at hcl
    | builtin b => simp only [clOf, hc] at hcl; cases b <;> cases hcl
  | conv =>
    obtain ⟨h1, h2, h3⟩ := plain (by rw [hcl]; simp)
    rw [hcl] at look pur
    refine ⟨h1, h2, ?_⟩
    unfold xop at h3
    have hop' : (match o.op with | .load _ _ => true | .lookup _ _ _ _ => true | .convert _ _ _ => true | .call c => (match c.callee with | .builtin .len => true | _ => false) | _ => false) = true ∧ memOp o.op = false := by
      cases hop : o.op <;> rw [hop] at hcl <;> first | exact ⟨rfl, rfl⟩ | (simp only [clOf, reduceCtorEq] at hcl; done) | skip
      rename_i c
      refine ⟨?_, rfl⟩
      cases hc : c.callee with
      | value f => simp only [clOf, hc, reduceCtorEq] at hcl
      | invoke a b => simp only [clOf, hc, reduceCtorEq] at hcl
      | builtin b => simp only [clOf, hc] at hcl; cases b <;> first | (cases hcl; done) | (simp only [hc]; done)
    simp only [hop'.2] at h3
    cases hx : xpure P (F.ev P) o with
    | some u => rw [hx] at h3; cases h3; exact pur rfl rfl
    | none => rw [hx] at h3; exact look rfl h3 (xheap_look h3 hop'.1)
  | fresh =>
    obtain ⟨h1, h2, h3⟩ := plain (by rw [hcl]; simp)
    refine ⟨h1, h2, ?_⟩
    have hx : xheap P (F.ev P) (vw H As next) o = some (v, H') := by
      unfold xop at h3
      have hmem : memOp o.op = true := by
        cases hop : o.op <;> rw [hop] at hcl <;> first | rfl | (simp only [clOf, reduceCtorEq] at hcl; done) | skip
        rename_i c
        cases hc : c.callee with
        | value f => simp only [clOf, hc, reduceCtorEq] at hcl
        | invoke a b => simp only [clOf, hc, reduceCtorEq] at hcl
        | builtin b => simp only [clOf, hc] at hcl; cases b <;> cases hcl
      simpa only [hmem] using h3
    obtain ⟨obj, rfl, h4⟩ := xheap_fresh hx hcl
    simp only
    unfold dFresh
    have h4' : xheap P (F.ev P) ⟨.lf, next⟩ o = some (v, (⟨.lf, next⟩ : Heap).alloc obj) := h4
    simp only [h4']
    have g1 : ((⟨.lf, next⟩ : Heap).alloc obj).get next = some obj := Heap.get_alloc_same _ _
    have g2 : Nat.beq ((⟨.lf, next⟩ : Heap).alloc obj).next (next + 1) = true := Nat.beq_refl _
    simp only [g1, g2, hput]
    refine ⟨_, rfl, rfl, ?_, Nat.le_succ_of_le hnx, ?_, by rw [hcl] at hE'; exact hE', by rw [hcl] at hR'; exact hR', .inl rfl⟩
    · unfold vw Heap.alloc
      have hb : Nat.ble H.next next = true := Nat.ble_eq_true_of_le hnx
      simp only [viewT, hb]
    · intro A hx
      cases hx with
      | head => exact ⟨⟨_, .head _, rfl⟩, Nat.lt_succ_self _⟩
      | tail _ hx => rw [hcl] at hA'; exact ⟨(hA' A hx).1, Nat.lt_succ_of_lt (hA' A hx).2⟩
  | effect =>
    obtain ⟨h1, h2, h3⟩ := plain (by rw [hcl]; simp)
    rw [hcl] at effect
    refine ⟨h1, h2, ?_⟩
    have hx : xheap P (F.ev P) (vw H As next) o = some (v, H') := by
      unfold xop at h3
      split at h3
      · exact h3
      · have : xpure P (F.ev P) o = none := by
          unfold xpure
          cases hop : o.op <;> rw [hop] at hcl <;> first | rfl | (simp only [clOf, reduceCtorEq] at hcl; done) | skip
          rename_i c
          show xpCall P (F.ev P) c o.type = none
          unfold xpCall
          cases hc : c.callee with
          | value f => rfl
          | invoke a b => rfl
          | builtin b =>
            simp only [clOf, hc] at hcl
            simp only
            split
            · rename_i l _
              cases b <;> first | (cases hcl; done) | (cases l <;> rfl) | rfl
            · rfl
        rw [this] at h3
        exact h3
    exact effect (x := fun H => xheap P (F.ev P) H o) rfl hx (xheap_next hx)
  | call =>
    rw [hcl] at effect
    cases hop : o.op <;> rw [hop] at hcl <;> first | (simp only [clOf, reduceCtorEq] at hcl; done) | skip
    rename_i c
    have hc : ∃ fo, c.callee = .value fo := by
      cases hc : c.callee with
      | value f => exact ⟨f, rfl⟩
      | invoke a b => simp only [clOf, hc, reduceCtorEq] at hcl
      | builtin b => simp only [clOf, hc] at hcl; cases b <;> cases hcl
    obtain ⟨fo, hc⟩ := hc
    have hs' : soCall P r (F.ev P) c o.type D (vw H As next) rc = .val v D' H' rc' := by
      unfold stepOp at hs
      rw [hop] at hs
      exact hs
    obtain ⟨h1, h2, h3⟩ := soCall_D hc hs'
    refine ⟨h1, h2, ?_⟩
    simp only
    have hnext : next ≤ H'.next := by
      have := nm_stepOp (P := P) hnm o F D (vw H As next) rc
      rw [hs] at this
      exact this
    exact effect (x := fun H => dEnd (soCall P r (F.ev P) c o.type [] H .norm)) rfl h3 hnext

def accA : List Oper → Nat → List (Nat × Cl) → List (Nat × Cl)
  | [], _, acc => acc
  | o :: l, i, acc => accA l (i + 1) ((i, clOf o.op) :: acc)
theorem noW_cons {d x : Nat} {o : Oper} {l : List Oper} (h : noW d x (o :: l) = true) : (∀ e, o.dst = some e → e ≠ d ∧ e ≠ x) ∧ noW d x l = true := by
  simp only [noW, Bool.and_eq_true] at h
  refine ⟨fun e he => ?_, h.2⟩
  have h1 := h.1
  rw [he] at h1
  simp only [Bool.and_eq_true, Bool.not_eq_true'] at h1
  constructor
  · intro e'; subst e'; rw [Nat.beq_refl] at h1; cases h1.1
  · intro e'; subst e'; rw [Nat.beq_refl] at h1; cases h1.2
theorem Fr.put_ne {F : Fr} {dst : Option Tmp} {v : Value} {x : Nat} (h : ∀ e, dst = some e → e ≠ x) : (F.put dst v).get x = F.get x := by
  cases dst with
  | none => rfl
  | some e => exact Tr.get_set_ne _ _ (h e rfl)
theorem RsOk.old {a : Array Oper} {F : Fr} {o : Oper} {l : List Oper} {Rs : List Looked} {v : Value} (h : RsOk a F (o :: l) Rs) : RsOk a (F.put o.dst v) l Rs := fun q hq => by
  obtain ⟨h1, h2⟩ := h q hq
  refine ⟨h1, fun d t x hd ho => ?_⟩
  obtain ⟨h3, h4, h5⟩ := h2 d t x hd ho
  obtain ⟨h6, h7⟩ := noW_cons h5
  exact ⟨by rw [Fr.put_ne fun e he => (h6 e he).1, h3], by rw [Fr.put_ne fun e he => (h6 e he).2, h4], h7⟩
theorem RsOk.new {a : Array Oper} {F : Fr} {o : Oper} {l : List Oper} {Rs Rs' : List Looked} {v : Value} {i : Nat} (h : RsOk a F (o :: l) Rs) (hi : nth i a.toList = some o) (hk : keepL (o :: l) = true) (hr : Rs' = Rs ∨ Rs' = ⟨i, o, v, F⟩ :: Rs) : RsOk a (F.put o.dst v) l Rs' := by
  rcases hr with rfl | rfl
  · exact h.old
  · intro q hq
    cases hq with
    | tail _ hq => exact h.old q hq
    | head =>
      refine ⟨hi, fun d t x hd ho => ?_⟩
      have hd : o.dst = some d := hd
      have ho : o.op = .load t (.tmp x) := ho
      simp only [keepL, hd, ho, Bool.and_eq_true, Bool.not_eq_true'] at hk
      have hne : d ≠ x := fun e => by subst e; rw [Nat.beq_refl] at hk; cases hk.1.1
      rw [hd]
      exact ⟨Tr.get_set_same _ _ _, (Tr.get_set_ne _ _ hne).symm, hk.1.2⟩

theorem serial_ops {P : Program} {hk : FuncId → Option (List Value → Heap → AEnd)} (hn : HkN hk) {n : Nat} {a : Array Oper} {Kf : Nat} : ∀ (l : List Oper) (k : Nat) (ms : List Nat) (i : Nat) (F : Fr) (H : Heap) (As : List Fresh) (next : Nat) (Es : List Was) (Rs : List Looked) (acc : List (Nat × Cl)) (D : Dl) (rc : RC)
    (F' : Fr) (D' : Dl) (H' : Heap) (rc' : RC) (tl : List Oper), k ≤ Kf → a.toList.drop i = l ++ tl → keepL (l ++ tl) = true → RsOk a F (l ++ tl) Rs → serialL l ms i acc = true → (∀ A ∈ As, (∃ c, (A.ix, c) ∈ acc ∧ isFr c = true) ∧ A.id < next) → (∀ e ∈ Es, ∃ c, (e.ix, c) ∈ acc ∧ isEf c = true) → (∀ q ∈ Rs, ∃ c, (q.ix, c) ∈ acc ∧ isLk c = true) → H.next ≤ next →
    (run P hk k).ops n a l F D (vw H As next) rc = .normal F' D' H' rc' → D' = D ∧ rc' = rc ∧ ∃ s, dOps P (run P hk Kf) n a l ms i ⟨F, H, As, next, Es, Rs⟩ = some s ∧ s.F = F' ∧ vw s.H s.As s.next = H' ∧ s.H.next ≤ s.next ∧ (∀ A ∈ s.As, (∃ c, (A.ix, c) ∈ accA l i acc ∧ isFr c = true) ∧ A.id < s.next) ∧ (∀ e ∈ s.Es, ∃ c, (e.ix, c) ∈ accA l i acc ∧ isEf c = true) ∧ (∀ q ∈ s.Rs, ∃ c, (q.ix, c) ∈ accA l i acc ∧ isLk c = true) ∧ RsOk a s.F tl s.Rs := by
  intro l
  induction l with
  | nil =>
    intro k ms i F H As next Es Rs acc D rc F' D' H' rc' tl hk' hdr hkp hrs hs hA hE hR hnx hrun
    cases k with
    | zero => cases hrun
    | succ k =>
      rw [ops_succ] at hrun
      unfold stepOps at hrun
      simp only [Out.normal.injEq] at hrun
      obtain ⟨rfl, rfl, rfl, rfl⟩ := hrun
      exact ⟨rfl, rfl, _, by cases ms <;> rfl, rfl, rfl, hnx, hA, hE, hR, hrs⟩
  | cons o l ih =>
    intro k ms i F H As next Es Rs acc D rc F' D' H' rc' tl hk' hdr hkp hrs hs hA hE hR hnx hrun
    cases ms with
    | nil => cases hs
    | cons m ms =>
      simp only [serialL, Bool.and_eq_true] at hs
      obtain ⟨⟨hok, hat⟩, hrest⟩ := hs
      have hi : nth i a.toList = some o := by
        rw [nth_eq, ← List.head?_drop, hdr]; rfl
      have hdr' : a.toList.drop (i + 1) = l ++ tl := by
        rw [← List.tail_drop, hdr]; rfl
      have hkp' : keepL (l ++ tl) = true := by
        have := hkp
        rw [List.cons_append] at this
        simp only [keepL, Bool.and_eq_true] at this
        exact this.2
      cases k with
      | zero => cases hrun
      | succ k =>
        rw [ops_succ] at hrun
        unfold stepOps at hrun
        simp only at hrun
        split at hrun
        · rename_i hg
          unfold soThen at hrun
          split at hrun
          · rename_i v D1 H1 rc1 hop
            have hdst : dstOk n o.dst = true := by
              unfold soNext at hrun
              cases hdd : o.dst with
              | none => rfl
              | some d =>
                rw [hdd] at hrun
                simp only at hrun
                split at hrun
                · cases hrun
                · rename_i hb; simp only [dstOk, hb]
            have hop' : stepOp P (run P hk Kf) o F D (vw H As next) rc = .val v D1 H1 rc1 := by rw [le_stepOp (run_le P hk (by omega : k ≤ Kf)) _ _ _ _ _ (by rw [hop]; simp), hop]
            obtain ⟨rfl, rfl, s, e1, e2, e3, e4, e5, e6, e7, e8⟩ := serial_step (nm_run P hn Kf) (n := n) (i := i) (m := m) (a := a) hok (serialAtF_of hat) hA hE hR hnx hdst hg hop' (fun q _ h => by cases h) (gl := fun _ => false) (fun e _ h => by cases h)
            have hrun' : (run P hk k).ops n a l (F.put o.dst v) D1 H1 rc1 = .normal F' D' H' rc' := by
              unfold soNext at hrun
              cases hdd : o.dst with
              | none => rw [hdd] at hrun; exact hrun
              | some d =>
                rw [hdd] at hrun
                simp only at hrun
                split at hrun
                · cases hrun
                · exact hrun
            rw [← e2, ← e3] at hrun'
            have hrs' : RsOk a s.F (l ++ tl) s.Rs := by rw [e2]; exact RsOk.new hrs hi hkp e8
            obtain ⟨h1, h2, s2, h3, h4, h5⟩ := ih k ms (i + 1) s.F s.H s.As s.next s.Es s.Rs _ D1 rc1 F' D' H' rc' tl (by omega) hdr' hkp' hrs' hrest e5 e6 e7 e4 hrun'
            refine ⟨h1, h2, s2, ?_, h4, h5⟩
            simp only [dOps, e1]
            exact h3
          · cases hrun
          · cases hrun
        · rename_i hg
          have hdst : dput n F o.dst undef = some (F.put o.dst undef) ∧ (run P hk k).ops n a l (F.put o.dst undef) D (vw H As next) rc = .normal F' D' H' rc' := by
            unfold soNext at hrun
            unfold dput
            cases hdd : o.dst with
            | none => rw [hdd] at hrun; exact ⟨rfl, hrun⟩
            | some d =>
              rw [hdd] at hrun
              simp only at hrun
              split at hrun
              · cases hrun
              · rename_i hb; simp only [hb]; exact ⟨rfl, hrun⟩
          obtain ⟨h1, h2, s2, h3, h4, h5⟩ := ih k ms (i + 1) (F.put o.dst undef) H As next Es Rs ((i, clOf o.op) :: acc) D rc F' D' H' rc' tl (by omega) hdr' hkp' hrs.old hrest
            (fun A hx => let ⟨⟨c, h1, h2⟩, h3⟩ := hA A hx; ⟨⟨c, .tail _ h1, h2⟩, h3⟩) (fun A hx => let ⟨c, h1, h2⟩ := hE A hx; ⟨c, .tail _ h1, h2⟩) (fun A hx => let ⟨c, h1, h2⟩ := hR A hx; ⟨c, .tail _ h1, h2⟩) hnx hdst.2
          refine ⟨h1, h2, s2, ?_, h4, h5⟩
          have : dStep P (run P hk Kf) n a i m o F H As next Es Rs = some ⟨F.put o.dst undef, H, As, next, Es, Rs⟩ := by
            unfold dStep
            simp only [hg]
            unfold dPure
            simp only [hdst.1]
          simp only [dOps, this]
          exact h3
        · cases hrun

/-- Operations neither leave nor return. -/
def OpsOut : Out → Prop
  | .exit _ _ _ _ _ => False
  | .ret _ _ _ _ => False
  | _ => True
theorem ops_out {P : Program} {hk : FuncId → Option (List Value → Heap → AEnd)} {n : Nat} {a : Array Oper} : ∀ (l : List Oper) (k : Nat) (F : Fr) (D : Dl) (H : Heap) (rc : RC), OpsOut ((run P hk k).ops n a l F D H rc) := by
  intro l
  induction l with
  | nil => intro k F D H rc; cases k <;> trivial
  | cons o l ih =>
    intro k F D H rc
    cases k with
    | zero => trivial
    | succ k =>
      have nx : ∀ dst v F D H rc, OpsOut (soNext (run P hk k) n a l dst v F D H rc) := by
        intro dst v F D H rc
        unfold soNext
        split
        · split
          · trivial
          · exact ih _ _ _ _ _
        · exact ih _ _ _ _ _
      rw [ops_succ]
      unfold stepOps
      simp only
      split
      · unfold soThen
        split
        · exact nx _ _ _ _ _ _
        · trivial
        · trivial
      · exact nx _ _ _ _ _ _
      · trivial

section
variable {P : Program} {hk : FuncId → Option (List Value → Heap → AEnd)} {n : Nat} {Q : LPost} {K : List KI} {E : Env} {D : Dl} {M : Imm} {L : List Seg} {rc : RC}

/-- A region whose order is drawn, walked in the text's order; it does not panic. -/
theorem J.draw {id : Nat} {a : Array Oper} (hn : HkN hk) (hf : P.follows .mixedOrders = true) (ho : orderly a = true) (hs : serialB a = true) (hkp : keepL a.toList = true)
    (h : J P hk n (fun E' D' M' L' rc' m => m = .ret ∧ D' = D ∧ rc' = rc ∧ J P hk n Q K E' D M' L' rc) [.ops a a.toList] E D M L rc) : J P hk n Q (.code (.region id a true) :: K) E D M L rc := by
  intro F H ha hs'
  obtain ⟨out, h1, h2⟩ := h F H ha hs'
  cases h1 with
  | go x y =>
    rename_i F1 D1 H1 rc1
    cases y
    obtain ⟨k, hk'⟩ := x
    obtain ⟨E', M', L', a1, a2, a3, a4, _, rfl, rfl, a5⟩ := h2
    have hrun : (run P hk k).ops n a a.toList F D1 (vw H [] H.next) rc1 = .normal F1 D1 H1 rc1 := hk'
    obtain ⟨e1, e2, s, e3, e4, e5, _⟩ := serial_ops hn (Kf := k) a.toList k (befores a) 0 F H [] H.next [] [] [] D1 rc1 F1 D1 H1 rc1 [] (Nat.le_refl _) (by simp) (by simpa using hkp) (by intro q hq; cases hq) hs (by simp) (by simp) (by simp) (Nat.le_refl _) hrun
    obtain ⟨out, b1, b2⟩ := a5 F1 H1 a1 a2
    refine ⟨out, .go ⟨k + 1, ?_⟩ b1, b2.after a3 a4⟩
    rw [code_succ]
    show stepDraw P (run P hk k) n a F D1 H rc1 = _
    unfold stepDraw
    simp only [hf, ho, e3, e4]
    congr 1
  | exit x _ _ =>
    obtain ⟨k, hk'⟩ := x
    have := ops_out (P := P) (hk := hk) (n := n) (a := a) a.toList k F D H rc
    rw [hk'] at this
    exact this.elim
  | ret x =>
    obtain ⟨k, hk'⟩ := x
    have := ops_out (P := P) (hk := hk) (n := n) (a := a) a.toList k F D H rc
    rw [hk'] at this
    exact this.elim
  | panic x =>
    obtain ⟨E', M', L', a1, a2, a3, a4, hm, _⟩ := h2
    cases hm

/- ## a look that may come before an effect, or behind it -/
inductive VR : Value → Prop where
  | b {x} : VR (.bool x)
  | i {k x} : VR (.int k x)
  | s {x} : VR (.string x)
  | p {x} : VR (.pointer x)
  | sl {a l c} : VR (.slice a l c)
  | m {x} : VR (.map x)
  | a1 {a l c} : VR (.agg ⟨[.slice a l c]⟩)
  | a2 {a l c a' l' c'} : VR (.agg ⟨[.slice a l c, .slice a' l' c']⟩)
  | ii {k x l y} : VR (.agg ⟨[.int k x, .int l y]⟩)
theorem VR.refl {v : Value} (h : VR v) : veq v v = true := by cases h <;> simp [veq, veqA, veqL]
/-- What was looked at before, is found alike. -/
inductive LooksJ (T : TT) (a : Array Oper) (M : Imm) (L : List Seg) (E : Env) : List Nat → Prop where
  | nil : LooksJ T a M L E []
  | cons {i l d t x ty pos af g v p} : nth i a.toList = some ⟨some d, .load t (.tmp x), ty, pos, af, g⟩ → E.get d = some v → E.get x = some p → Ld T M L t p v → VR v → LooksJ T a M L E l → LooksJ T a M L E (i :: l)
theorem LooksJ.at {T : TT} {a : Array Oper} {M : Imm} {L : List Seg} {E : Env} {l : List Nat} (h : LooksJ T a M L E l) {i : Nat} (hi : memN i l = true) :
    ∃ d t x ty pos af g v p, nth i a.toList = some ⟨some d, .load t (.tmp x), ty, pos, af, g⟩ ∧ E.get d = some v ∧ E.get x = some p ∧ Ld T M L t p v ∧ VR v := by
  induction h with
  | nil => cases hi
  | cons h1 h2 h3 h4 h5 h6 ih =>
    simp only [memN] at hi
    split at hi
    · rename_i hb
      have := Nat.eq_of_beq_eq_true hb
      subst this
      exact ⟨_, _, _, _, _, _, _, _, _, h1, h2, h3, h4, h5⟩
    · exact ih hi
def serialS (a : Array Oper) (j : Nat) (fl : List Nat) : Bool := match a.toList.drop j, (befores a).drop j with
  | o :: l2, m :: ms => serialL (a.toList.take j) (befores a) 0 [] && okOp o && (match o.guard with | none => true | some _ => false) && serialAtF (clOf o.op) m (fun k => memN k fl) (fun _ => false) (accA (a.toList.take j) 0 []) && serialL l2 ms (j + 1) ((j, clOf o.op) :: accA (a.toList.take j) 0 [])
  | _, _ => false
theorem dOps_app {P : Program} {r : Rec} {n : Nat} {a : Array Oper} : ∀ (l1 l2 : List Oper) (ms : List Nat) (i : Nat) (s s1 : DS), dOps P r n a l1 ms i s = some s1 → dOps P r n a (l1 ++ l2) ms i s = dOps P r n a l2 (ms.drop l1.length) (i + l1.length) s1
  | [], l2, ms, i, s, s1, h => by
    have : s = s1 := by cases ms <;> (simp only [dOps, Option.some.injEq] at h; exact h)
    subst this
    rfl
  | o :: l1, l2, [], i, s, s1, h => by simp only [dOps] at h; cases h
  | o :: l1, l2, m :: ms, i, s, s1, h => by
    simp only [dOps] at h
    split at h
    · rename_i s' hs
      have := dOps_app l1 l2 ms (i + 1) s' s1 h
      simp only [List.cons_append, dOps, hs, List.length_cons, List.drop_succ_cons]
      rw [this]
      congr 1
      omega
    · cases h
/-- A row of operations that does not panic: its run. -/
theorem J.opsRun {a : Array Oper} {l : List Oper} {R : Env → Imm → List Seg → Prop} (h : J P hk n (fun E' D' M' L' rc' m => m = .ret ∧ D' = D ∧ rc' = rc ∧ R E' M' L') [.ops a l] E D M L rc) {F : Fr} {H : Heap} (ha : Agree F E) (hs : Sat M L.flatten H) :
    ∃ k F1 H1 E' M' L', (run P hk k).ops n a l F D H rc = .normal F1 D H1 rc ∧ Agree F1 E' ∧ Sat M' L'.flatten H1 ∧ MLe M M' ∧ Frm L.flatten H L'.flatten H1 ∧ R E' M' L' := by
  obtain ⟨out, h1, h2⟩ := h F H ha hs
  cases h1 with
  | go x y =>
    rename_i F1 D1 H1 rc1
    cases y
    obtain ⟨k, hk'⟩ := x
    obtain ⟨E', M', L', a1, a2, a3, a4, _, rfl, rfl, a5⟩ := h2
    exact ⟨k, F1, H1, E', M', L', hk', a1, a2, a3, a4, a5⟩
  | exit x _ _ =>
    obtain ⟨k, hk'⟩ := x
    have := ops_out (P := P) (hk := hk) (n := n) (a := a) l k F D H rc
    rw [hk'] at this
    exact this.elim
  | ret x =>
    obtain ⟨k, hk'⟩ := x
    have := ops_out (P := P) (hk := hk) (n := n) (a := a) l k F D H rc
    rw [hk'] at this
    exact this.elim
  | panic x =>
    obtain ⟨E', M', L', a1, a2, a3, a4, hm, _⟩ := h2
    cases hm
theorem one_run {a : Array Oper} {o : Oper} (hg : o.guard = none) {F F1 : Fr} {H H1 : Heap} {k : Nat} (h : (run P hk k).ops n a [o] F D H rc = .normal F1 D H1 rc) :
    ∃ v D' rc', stepOp P (run P hk k) o F D H rc = .val v D' H1 rc' ∧ F1 = F.put o.dst v ∧ dstOk n o.dst = true := by
  cases k with
  | zero => cases h
  | succ k =>
    rw [ops_succ] at h
    unfold stepOps at h
    have hgb : guardB a F o.guard = some true := by rw [hg]; rfl
    simp only [hgb] at h
    unfold soThen at h
    split at h
    · rename_i v D1 H2 rc1 hop
      refine ⟨v, D1, rc1, ?_⟩
      have hop' : stepOp P (run P hk (k + 1)) o F D H rc = .val v D1 H2 rc1 := by rw [le_stepOp (run_le P hk (by omega : k ≤ k + 1)) _ _ _ _ _ (by rw [hop]; simp), hop]
      unfold soNext at h
      cases hdd : o.dst with
      | none =>
        rw [hdd] at h
        simp only at h
        cases k with
        | zero => cases h
        | succ k =>
          rw [ops_succ] at h
          unfold stepOps at h
          simp only [Out.normal.injEq] at h
          obtain ⟨rfl, rfl, rfl, rfl⟩ := h
          exact ⟨hop', rfl, rfl⟩
      | some d =>
        rw [hdd] at h
        simp only at h
        split at h
        · cases h
        · rename_i hb
          cases k with
          | zero => cases h
          | succ k =>
            rw [ops_succ] at h
            unfold stepOps at h
            simp only [Out.normal.injEq] at h
            obtain ⟨rfl, rfl, rfl, rfl⟩ := h
            exact ⟨hop', rfl, by simp only [dstOk, hb]⟩
    · cases h
    · cases h
theorem looks_load {T : TT} (hT : TOk P T) {M : Imm} {L : List Seg} {H : Heap} (hs : Sat M L.flatten H) {ρ : Operand → Option Value} {d t x ty pos af g v p} (hx : ρ (.tmp x) = some p) (h : Ld T M L t p v) (hv : VR v) : looks P ρ H ⟨some d, .load t (.tmp x), ty, pos, af, g⟩ v = true := by
  unfold looks xlook
  have : xheap P ρ H ⟨some d, .load t (.tmp x), ty, pos, af, g⟩ = some (v, H) := by
    show xhLoad P ρ H t (.tmp x) = _
    unfold xhLoad
    rw [hx]
    simp only [h.ok hT hs]
  rw [this]
  simp only [Nat.beq_refl, hv.refl]
/-- .. of which one effect may come before or behind looks. -/
theorem J.drawS {T : TT} (hT : TOk P T) (j : Nat) (fl : List Nat) {id : Nat} {a : Array Oper} (hn : HkN hk) (hf : P.follows .mixedOrders = true) (ho : orderly a = true) (hs : serialS a j fl = true) (hkp : keepL a.toList = true) {l1 lo l2 : List Oper}
    (e1 : a.toList.take j = l1) (e2 : (a.toList.drop j).take 1 = lo) (e3 : a.toList.drop (j + 1) = l2)
    (h : J P hk n (fun E' D' M' L' rc' m => m = .ret ∧ D' = D ∧ rc' = rc ∧ J P hk n (fun E' D' M' L' rc' m => m = .ret ∧ D' = D ∧ rc' = rc ∧ LooksJ T a M' L' E' fl ∧ J P hk n (fun E' D' M' L' rc' m => m = .ret ∧ D' = D ∧ rc' = rc ∧ J P hk n Q K E' D M' L' rc)
      [.ops a l2] E' D M' L' rc) [.ops a lo] E' D M' L' rc) [.ops a l1] E D M L rc) : J P hk n Q (.code (.region id a true) :: K) E D M L rc := by
  subst e1
  intro F H ha hs0
  unfold serialS at hs
  cases hdo : a.toList.drop j with
  | nil => rw [hdo] at hs; cases hs
  | cons o l2' =>
    rw [hdo] at hs e2
    cases hdm : (befores a).drop j with
    | nil => rw [hdm] at hs; cases hs
    | cons m ms =>
      rw [hdm] at hs
      simp only [Bool.and_eq_true] at hs
      obtain ⟨⟨⟨⟨hs1, hok⟩, hgd⟩, hat⟩, hs2⟩ := hs
      have hgd : o.guard = none := by cases hg : o.guard with
        | none => rfl
        | some _ => rw [hg] at hgd; cases hgd
      have e2 : lo = [o] := by rw [← e2]; rfl
      subst e2
      have hl2 : l2' = l2 := by rw [← e3, ← List.tail_drop, hdo]; rfl
      subst hl2
      have hjl : j < a.toList.length := by
        rcases Nat.lt_or_ge j a.toList.length with h | h
        · exact h
        · rw [List.drop_eq_nil_of_le h] at hdo; cases hdo
      have hlen : (a.toList.take j).length = j := by rw [List.length_take]; omega
      have hall : a.toList.take j ++ o :: l2' = a.toList := by rw [← hdo, List.take_append_drop]
      obtain ⟨k1, F1, H1, E1, M1, L1, r1, a1, a2, a3, a4, h⟩ := J.opsRun (R := fun E' M' L' => J P hk n (fun E' D' M' L' rc' m => m = .ret ∧ D' = D ∧ rc' = rc ∧ LooksJ T a M' L' E' fl ∧ J P hk n (fun E' D' M' L' rc' m => m = .ret ∧ D' = D ∧ rc' = rc ∧ J P hk n Q K E' D M' L' rc)
        [.ops a l2'] E' D M' L' rc) [.ops a [o]] E' D M' L' rc) h ha hs0
      obtain ⟨k2, F2, H2, E2, M2, L2, r2, b1, b2, b3, b4, hlk, h⟩ := J.opsRun (R := fun E' M' L' => LooksJ T a M' L' E' fl ∧ J P hk n (fun E' D' M' L' rc' m => m = .ret ∧ D' = D ∧ rc' = rc ∧ J P hk n Q K E' D M' L' rc) [.ops a l2'] E' D M' L' rc) h a1 a2
      obtain ⟨k3, F3, H3, E3, M3, L3, r3, c1, c2, c3, c4, h⟩ := J.opsRun (R := fun E' M' L' => J P hk n Q K E' D M' L' rc) h b1 b2
      obtain ⟨out, d1, d2⟩ := h F3 H3 c1 c2
      have kp : keepL (a.toList.take j ++ o :: l2') = true := by rw [hall]; exact hkp
      have kp2 : ∀ {l l' : List Oper}, keepL (l ++ l') = true → keepL l' = true := by
        intro l l' h
        induction l with
        | nil => exact h
        | cons x l ih => rw [List.cons_append] at h; simp only [keepL, Bool.and_eq_true] at h; exact ih h.2
      obtain ⟨v, D', rc', q1, q2, q3⟩ := one_run hgd r2
      -- one fuel for all
      let kk := k1 + k2 + k3
      obtain ⟨_, _, s1, u1, u2, u3, u4, u5, u6, u7, u8⟩ := serial_ops hn (Kf := kk) (a.toList.take j) k1 (befores a) 0 F H [] H.next [] [] [] D rc F1 D H1 rc (o :: l2') (by omega) (by rw [List.drop_zero, hall]) kp (by intro q hq; cases hq) hs1 (by simp) (by simp) (by simp) (Nat.le_refl _) r1
      have q1' : stepOp P (run P hk kk) o s1.F D (vw s1.H s1.As s1.next) rc = .val v D' H2 rc' := by
        rw [u2, u3, le_stepOp (run_le P hk (by omega : k2 ≤ kk)) _ _ _ _ _ (by rw [q1]; simp), q1]
      obtain ⟨rfl, rfl, s2, w1, w2, w3, w4, w5, w6, w7, w8⟩ := serial_step (nm_run P hn kk) (n := n) (i := j) (m := m) (a := a) (fl := fun k => memN k fl) (gl := fun _ => false) hok hat u5 u6 u7 u4 q3 (by rw [hgd]; rfl) q1' (by
        intro q hq hfq
        obtain ⟨d, t, x, ty, pos, af, g, v0, p0, z1, z2, z3, z4, z5⟩ := hlk.at hfq
        obtain ⟨y1, y2⟩ := u8 q hq
        rw [z1] at y1
        have y1 := (Option.some.inj y1).symm
        obtain ⟨y3, y4, y5⟩ := y2 d t x (by rw [y1]) (by rw [y1])
        obtain ⟨y6, _⟩ := noW_cons y5
        have g1 := b1 d v0 z2
        have g2 := b1 x p0 z3
        rw [q2, ← u2, Fr.put_ne fun e he => (y6 e he).1, y3] at g1
        rw [q2, ← u2, Fr.put_ne fun e he => (y6 e he).2, ← y4] at g2
        cases g1
        rw [y1]
        exact looks_load hT b2 (ρ := q.F.ev P) (by exact g2) z4 z5) (fun e _ h => by cases h)
      have w2' : s2.F = F2 := by rw [w2, q2, u2]
      have r3' : (run P hk k3).ops n a l2' s2.F D' (vw s2.H s2.As s2.next) rc' = .normal F3 D' H3 rc' := by rw [w2', w3]; exact r3
      have hrs2 : RsOk a s2.F (l2' ++ []) s2.Rs := by
        rw [w2, List.append_nil]
        exact RsOk.new u8 (by rw [nth_eq, ← List.head?_drop, hdo]; rfl) (kp2 kp) w8
      obtain ⟨_, _, s3, x1, x2, x3, _⟩ := serial_ops hn (Kf := kk) l2' k3 ms (j + 1) s2.F s2.H s2.As s2.next s2.Es s2.Rs _ D' rc' F3 D' H3 rc' [] (by omega) (by rw [List.append_nil]; exact e3) (by rw [List.append_nil]; exact kp2 (l := a.toList.take j ++ [o]) (by simpa using kp)) hrs2 hs2 w5 w6 w7 w4 r3'
      refine ⟨out, .go ⟨kk + 1, ?_⟩ d1, d2.after ((a3.trans b3).trans c3) ((a4.trans b4).trans c4)⟩
      rw [code_succ]
      show stepDraw P (run P hk kk) n a F D' H rc' = _
      unfold stepDraw
      have hdd : dOps P (run P hk kk) n a a.toList (befores a) 0 ⟨F, H, [], H.next, [], []⟩ = some s3 := by
        rw [← hall, dOps_app _ _ _ _ _ _ u1, hlen, hdm, Nat.zero_add]
        simp only [dOps]
        rw [w1]
        exact x1
      simp only [hf, ho, hdd, x2]
      congr 1
theorem J.dropHd {s : Seg} (h : J P hk n Q K E D M L rc) : J P hk n Q K E D M (s :: L) rc := h.drop (by simp)
/-- Picks out some groups, in some order (each number counts in what is left), and drops the rest. -/
def pickN : Nat → List Seg → Option (Seg × List Seg)
  | _, [] => none
  | 0, s :: L => some (s, L)
  | i + 1, x :: L => (pickN i L).map fun p => (p.1, x :: p.2)
def selR : List Nat → List Seg → Option (List Seg × List Seg)
  | [], L => some ([], L)
  | i :: is, L => (pickN i L).bind fun p => (selR is p.2).map fun q => (p.1 :: q.1, q.2)
theorem pickN_perm : ∀ {i : Nat} {L R : List Seg} {s : Seg}, pickN i L = some (s, R) → L.Perm (s :: R)
  | _, [], _, _, h => by cases (show pickN _ [] = none from by unfold pickN; rfl) ▸ h
  | 0, x :: L, R, s, h => by cases h; exact List.Perm.refl _
  | i + 1, x :: L, R, s, h => by
    unfold pickN at h
    cases hp : pickN i L with
    | none => rw [hp] at h; cases h
    | some p =>
      obtain ⟨s', R'⟩ := p
      rw [hp] at h
      cases h
      exact ((pickN_perm hp).cons x).trans (List.Perm.swap _ _ _)
theorem selR_perm : ∀ {is : List Nat} {L L' R : List Seg}, selR is L = some (L', R) → L.Perm (L' ++ R)
  | [], L, L', R, h => by cases h; exact List.Perm.refl _
  | i :: is, L, L', R, h => by
    unfold selR at h
    cases hp : pickN i L with
    | none => rw [hp] at h; cases h
    | some p =>
      obtain ⟨s', R'⟩ := p
      rw [hp] at h
      simp only [Option.bind_some] at h
      cases hq : selR is R' with
      | none => rw [hq] at h; cases h
      | some q =>
        obtain ⟨q1, q2⟩ := q
        rw [hq] at h
        cases h
        exact (pickN_perm hp).trans ((selR_perm hq).cons s')
theorem J.sel {L' R : List Seg} (is : List Nat) (hs : selR is L = some (L', R)) (h : J P hk n Q K E D M L' rc) : J P hk n Q K E D M L rc := by
  have hp := (selR_perm hs).flatten
  rw [List.flatten_append] at hp
  exact J.perm (L' := L' ++ R) (by rw [List.flatten_append]; exact hp) (h.drop (by rw [List.flatten_append]; exact List.sublist_append_left _ _))
end
end
end Go.Proofs.YtmlgmgjakhbhjaaGreatDoor.Ab

namespace Go.Proofs.YtmlgmgjakhbhjaaGreatDoor.Ab
open Go
noncomputable section
section
variable {P : Program} {hk : FuncId → Option (List Value → Heap → AEnd)} {n : Nat} {Q : LPost} {K : List KI} {E : Env} {D : Dl} {M : Imm} {L : List Seg} {rc : RC}
def noFr : List Oper → Bool
  | [] => true
  | o :: l => !isFr (clOf o.op) && noFr l
theorem noFr_acc : ∀ (l : List Oper) (i : Nat) (acc : List (Nat × Cl)), noFr l = true → (∀ p ∈ acc, isFr p.2 = false) → ∀ p ∈ accA l i acc, isFr p.2 = false
  | [], _, _, _, h => h
  | o :: l, i, acc, hn, h => by
    simp only [noFr, Bool.and_eq_true, Bool.not_eq_true'] at hn
    exact noFr_acc l (i + 1) _ hn.2 (by
      intro p hp
      cases hp with
      | head => exact hn.1
      | tail _ hp => exact h p hp)
theorem accA_lt : ∀ (l : List Oper) (i : Nat) (acc : List (Nat × Cl)), (∀ p ∈ acc, p.1 < i) → ∀ p ∈ accA l i acc, p.1 < i + l.length
  | [], _, _, h => h
  | o :: l, i, acc, h => fun p hp => by
    have := accA_lt l (i + 1) ((i, clOf o.op) :: acc) (by
      intro p hp
      cases hp with
      | head => exact Nat.lt_succ_self _
      | tail _ hp => exact Nat.lt_succ_of_lt (h p hp)) p hp
    rw [List.length_cons]
    omega
theorem dPure_es {n : Nat} {o : Oper} {x : Option Value} {F : Fr} {H : Heap} {As : List Fresh} {next : Nat} {Es : List Was} {Rs : List Looked} {s : DS} (h : dPure n o x F H As next Es Rs = some s) : s.Es = Es := by
  unfold dPure at h
  split at h
  · split at h
    · cases h; rfl
    · cases h
  · cases h
theorem dRead_es {P : Program} {n i m : Nat} {o : Oper} {F : Fr} {H : Heap} {As : List Fresh} {next : Nat} {Es : List Was} {Rs : List Looked} {s : DS} (h : dRead P n i m o F H As next Es Rs = some s) : s.Es = Es := by
  unfold dRead at h
  split at h
  · split at h
    · split at h
      · cases h; rfl
      · cases h
    · cases h
  · cases h
theorem dFresh_es {P : Program} {n i : Nat} {o : Oper} {F : Fr} {H : Heap} {As : List Fresh} {next : Nat} {Es : List Was} {Rs : List Looked} {s : DS} (h : dFresh P n i o F H As next Es Rs = some s) : s.Es = Es := by
  unfold dFresh at h
  split at h
  · split at h
    · cases h; rfl
    · cases h
  · cases h
theorem dEffect_es {P : Program} {n i m : Nat} {o : Oper} {x : Heap → Option (Value × Heap)} {F : Fr} {H : Heap} {As : List Fresh} {next : Nat} {Es : List Was} {Rs : List Looked} {s : DS} (h : dEffect P n i m o x F H As next Es Rs = some s) : s.Es = ⟨i, H⟩ :: Es := by
  unfold dEffect at h
  split at h
  · split at h
    · split at h
      · cases h; rfl
      · cases h
    · cases h
  · cases h
theorem dStep_es {P : Program} {r : Rec} {n : Nat} {a : Array Oper} {i m : Nat} {o : Oper} {F : Fr} {H : Heap} {As : List Fresh} {next : Nat} {Es : List Was} {Rs : List Looked} {s : DS} (h : dStep P r n a i m o F H As next Es Rs = some s) : s.Es = Es ∨ s.Es = ⟨i, H⟩ :: Es := by
  unfold dStep at h
  split at h
  · unfold dOp at h
    split at h
    · exact .inl (dPure_es h)
    · exact .inl (dRead_es h)
    · split at h
      · exact .inl (dPure_es h)
      · exact .inl (dRead_es h)
    · exact .inl (dFresh_es h)
    · exact .inr (dEffect_es h)
    · split at h
      · exact .inr (dEffect_es h)
      · cases h
    · cases h
  · exact .inl (dPure_es h)
  · cases h
def loadOf (o : Oper) : Bool := match o.dst, o.op with
  | some d, .load _ (.tmp x) => !Nat.beq d x
  | _, _ => false
theorem loadOf_spec {o : Oper} (h : loadOf o = true) : ∃ d t x, o.dst = some d ∧ o.op = .load t (.tmp x) ∧ d ≠ x := by
  unfold loadOf at h
  split at h
  · rename_i d t x hd ho
    refine ⟨d, t, x, hd, ho, fun e => ?_⟩
    subst e
    rw [Nat.beq_refl] at h
    cases h
  · cases h
def serialT (a : Array Oper) (j : Nat) : Bool := match a.toList.drop j, (befores a).drop j with
  | o :: o3 :: l2, m :: m3 :: ms => noFr (a.toList.take j) && !isFr (clOf o.op) && serialL (a.toList.take j) (befores a) 0 [] && okOp o && (match o.guard with | none => true | some _ => false) && serialAt (clOf o.op) m (accA (a.toList.take j) 0 []) &&
      okOp o3 && loadOf o3 && (match o3.guard with | none => true | some _ => false) && serialAtF (clOf o3.op) m3 (fun _ => false) (fun k => Nat.beq k j) ((j, clOf o.op) :: accA (a.toList.take j) 0 []) &&
      serialL l2 ms (j + 1 + 1) ((j + 1, clOf o3.op) :: (j, clOf o.op) :: accA (a.toList.take j) 0 [])
  | _, _ => false

theorem xload_next {P : Program} {t : Tr AObj} {n1 n2 : Nat} {ty : TypeId} {x : Value} : xload P ⟨t, n1⟩ ty x = xload P ⟨t, n2⟩ ty x := rfl

theorem J.drawL {T : TT} (hT : TOk P T) (j : Nat) {id : Nat} {a : Array Oper} (hn : HkN hk) (hf : P.follows .mixedOrders = true) (ho : orderly a = true) (hs : serialT a j = true) (hkp : keepL a.toList = true) {l1 lo l3 l2 : List Oper}
    (e1 : a.toList.take j = l1) (e2 : (a.toList.drop j).take 1 = lo) (e3 : (a.toList.drop (j + 1)).take 1 = l3) (e4 : a.toList.drop (j + 1 + 1) = l2)
    (h : J P hk n (fun E1 D1 M1 L1 rc1 m => m = .ret ∧ D1 = D ∧ rc1 = rc ∧ J P hk n (fun E' D' M' L' rc' m => m = .ret ∧ D' = D ∧ rc' = rc ∧ J P hk n (fun E' D' M' L' rc' m => m = .ret ∧ D' = D ∧ rc' = rc ∧ LooksJ T a M1 L1 E' [j + 1] ∧ J P hk n (fun E' D' M' L' rc' m => m = .ret ∧ D' = D ∧ rc' = rc ∧ J P hk n Q K E' D M' L' rc)
      [.ops a l2] E' D M' L' rc) [.ops a l3] E' D M' L' rc) [.ops a lo] E1 D M1 L1 rc) [.ops a l1] E D M L rc) : J P hk n Q (.code (.region id a true) :: K) E D M L rc := by
  subst e1
  intro F H ha hs0
  unfold serialT at hs
  cases hdo : a.toList.drop j with
  | nil => rw [hdo] at hs; cases hs
  | cons o l2' =>
    cases hl2' : l2' with
    | nil => rw [hdo, hl2'] at hs; cases hs
    | cons o3 l2x =>
      rw [hdo, hl2'] at hs
      rw [hdo] at e2
      cases hdm : (befores a).drop j with
      | nil => rw [hdm] at hs; cases hs
      | cons m ms' =>
        cases hms : ms' with
        | nil => rw [hdm, hms] at hs; cases hs
        | cons m3 ms =>
          rw [hdm, hms] at hs
          simp only [Bool.and_eq_true] at hs
          obtain ⟨⟨⟨⟨⟨⟨⟨⟨⟨⟨hf1, hf2⟩, hs1⟩, hok⟩, hgd⟩, hat⟩, hok3⟩, hld⟩, hgd3⟩, hat3⟩, hs2⟩ := hs
          have hgd : o.guard = none := by cases hg : o.guard with
            | none => rfl
            | some _ => rw [hg] at hgd; cases hgd
          have hgd3 : o3.guard = none := by cases hg : o3.guard with
            | none => rfl
            | some _ => rw [hg] at hgd3; cases hgd3
          have e2 : lo = [o] := by rw [← e2]; rfl
          subst e2
          have hd1 : a.toList.drop (j + 1) = o3 :: l2x := by rw [← List.tail_drop, hdo, hl2']; rfl
          have e3 : l3 = [o3] := by rw [← e3, hd1]; rfl
          subst e3
          have hl2 : l2x = l2 := by rw [← e4, ← List.tail_drop, hd1]; rfl
          subst hl2
          have hjl : j < a.toList.length := by
            rcases Nat.lt_or_ge j a.toList.length with h | h
            · exact h
            · rw [List.drop_eq_nil_of_le h] at hdo; cases hdo
          have hlen : (a.toList.take j).length = j := by rw [List.length_take]; omega
          have hall : a.toList.take j ++ o :: o3 :: l2x = a.toList := by rw [← hl2', ← hdo, List.take_append_drop]
          obtain ⟨k1, F1, H1, E1, M1, L1, r1, a1, a2, a3, a4, h⟩ := J.opsRun (R := fun E1 M1 L1 => J P hk n (fun E' D' M' L' rc' m => m = .ret ∧ D' = D ∧ rc' = rc ∧ J P hk n (fun E' D' M' L' rc' m => m = .ret ∧ D' = D ∧ rc' = rc ∧ LooksJ T a M1 L1 E' [j + 1] ∧ J P hk n (fun E' D' M' L' rc' m => m = .ret ∧ D' = D ∧ rc' = rc ∧ J P hk n Q K E' D M' L' rc)
            [.ops a l2x] E' D M' L' rc) [.ops a [o3]] E' D M' L' rc) [.ops a [o]] E1 D M1 L1 rc) h ha hs0
          obtain ⟨k2, F2, H2, E2, M2, L2, r2, b1, b2, b3, b4, h⟩ := J.opsRun (R := fun E' M' L' => J P hk n (fun E' D' M' L' rc' m => m = .ret ∧ D' = D ∧ rc' = rc ∧ LooksJ T a M1 L1 E' [j + 1] ∧ J P hk n (fun E' D' M' L' rc' m => m = .ret ∧ D' = D ∧ rc' = rc ∧ J P hk n Q K E' D M' L' rc)
            [.ops a l2x] E' D M' L' rc) [.ops a [o3]] E' D M' L' rc) h a1 a2
          obtain ⟨k3, F3, H3, E3, M3, L3, r3, c1, c2, c3, c4, hlk, h⟩ := J.opsRun (R := fun E' M' L' => LooksJ T a M1 L1 E' [j + 1] ∧ J P hk n (fun E' D' M' L' rc' m => m = .ret ∧ D' = D ∧ rc' = rc ∧ J P hk n Q K E' D M' L' rc) [.ops a l2x] E' D M' L' rc) h b1 b2
          obtain ⟨k4, F4, H4, E4, M4, L4, r4, d1, d2, d3, d4, h⟩ := J.opsRun (R := fun E' M' L' => J P hk n Q K E' D M' L' rc) h c1 c2
          obtain ⟨out, f1, f2⟩ := h F4 H4 d1 d2
          have kp : keepL (a.toList.take j ++ o :: o3 :: l2x) = true := by rw [hall]; exact hkp
          have kp2 : ∀ {l l' : List Oper}, keepL (l ++ l') = true → keepL l' = true := by
            intro l l' h
            induction l with
            | nil => exact h
            | cons x l ih => rw [List.cons_append] at h; simp only [keepL, Bool.and_eq_true] at h; exact ih h.2
          obtain ⟨v, D', rc', q1, q2, q3⟩ := one_run hgd r2
          obtain ⟨v3, D3, rc3, p1, p2, p3⟩ := one_run hgd3 r3
          let kk := k1 + k2 + k3 + k4
          obtain ⟨_, _, s1, u1, u2, u3, u4, u5, u6, u7, u8⟩ := serial_ops hn (Kf := kk) (a.toList.take j) k1 (befores a) 0 F H [] H.next [] [] [] D rc F1 D H1 rc (o :: o3 :: l2x) (by omega) (by rw [List.drop_zero, hall]) kp (by intro q hq; cases hq) hs1 (by simp) (by simp) (by simp) (Nat.le_refl _) r1
          have hAs1 : s1.As = [] := by
            match hh : s1.As with
            | [] => rfl
            | A :: l =>
              obtain ⟨⟨cc, g1, g2⟩, _⟩ := u5 A (by rw [hh]; exact .head _)
              have := noFr_acc _ 0 [] hf1 (by simp) _ g1
              rw [this] at g2; cases g2
          have q1' : stepOp P (run P hk kk) o s1.F D (vw s1.H s1.As s1.next) rc = .val v D' H2 rc' := by
            rw [u2, u3, le_stepOp (run_le P hk (by omega : k2 ≤ kk)) _ _ _ _ _ (by rw [q1]; simp), q1]
          obtain ⟨rfl, rfl, s2, w1, w2, w3, w4, w5, w6, w7, w8⟩ := serial_step (nm_run P hn kk) (n := n) (i := j) (m := m) (a := a) (fl := fun _ => false) (gl := fun _ => false) hok (serialAtF_of hat) u5 u6 u7 u4 q3 (by rw [hgd]; rfl) q1' (fun q _ h => by cases h) (fun e _ h => by cases h)
          have hAs2 : s2.As = [] := by
            match hh : s2.As with
            | [] => rfl
            | A :: l =>
              obtain ⟨⟨cc, g1, g2⟩, _⟩ := w5 A (by rw [hh]; exact .head _)
              cases g1 with
              | head => simp only [Bool.not_eq_true'] at hf2; rw [hf2] at g2; cases g2
              | tail _ g1 =>
                have := noFr_acc _ 0 [] hf1 (by simp) _ g1
                rw [this] at g2; cases g2
          have w2' : s2.F = F2 := by rw [w2, q2, u2]
          have hEs : ∀ e ∈ s2.Es, e.ix = j → e.H.t = H1.t := by
            intro e he hj
            have hold : ∀ e ∈ s1.Es, e.ix < j := fun e he => by
              obtain ⟨cc, g1, _⟩ := u6 e he
              have := accA_lt (a.toList.take j) 0 [] (by simp) _ g1
              rw [hlen] at this
              simpa using this
            rcases dStep_es w1 with hq | hq
            · rw [hq] at he
              have := hold e he
              omega
            · rw [hq] at he
              cases he with
              | head =>
                rw [← u3, hAs1]
                rfl
              | tail _ he => have := hold e he; omega
          have hrs2 : RsOk a s2.F (o3 :: l2x) s2.Rs := by
            rw [w2]
            exact RsOk.new u8 (by rw [nth_eq, ← List.head?_drop, hdo]; rfl) (kp2 kp) w8
          have p1' : stepOp P (run P hk kk) o3 s2.F D' (vw s2.H s2.As s2.next) rc' = .val v3 D3 H3 rc3 := by
            rw [w2', w3, le_stepOp (run_le P hk (by omega : k3 ≤ kk)) _ _ _ _ _ (by rw [p1]; simp), p1]
          obtain ⟨dd, tt', xx, hdst, hop3, hne⟩ := loadOf_spec hld
          obtain ⟨rfl, rfl, s3, x1, x2, x3, x4, x5, x6, x7, x8⟩ := serial_step (nm_run P hn kk) (n := n) (i := j + 1) (m := m3) (a := a) (fl := fun _ => false) (gl := fun k => Nat.beq k j) hok3 hat3 w5 w6 w7 w4 p3 (by rw [hgd3]; rfl) p1' (fun q _ h => by cases h) (by
            intro e he hj _
            have hj := Nat.eq_of_beq_eq_true hj
            obtain ⟨d, t, x, ty, pos, af, g, v0, p0, z1, z2, z3, z4, z5⟩ := hlk.at (i := j + 1) (by simp [memN])
            have ho3 : nth (j + 1) a.toList = some o3 := by rw [nth_eq, ← List.head?_drop, hd1]; rfl
            rw [ho3] at z1
            have z1 := Option.some.inj z1
            have g1 := c1 d v0 z2
            have g2 := c1 x p0 z3
            have hdx : d ≠ x := by
              intro hx
              subst hx
              rw [z1] at hdst hop3
              simp only [Option.some.injEq] at hdst
              cases hop3
              exact hne hdst.symm
            rw [p2, z1] at g1 g2
            rw [show (F2.put (some d) v3).get d = some v3 from Tr.get_set_same _ _ _] at g1
            cases g1
            rw [show (F2.put (some d) v3).get x = F2.get x from Fr.put_ne fun e he => by cases he; exact hdx] at g2
            have hH : (⟨viewT e.H.t e.H.next (bit m3) s2.As, s2.next⟩ : Heap) = ⟨H1.t, s2.next⟩ := by rw [hAs2, ← hEs e he hj]; rfl
            rw [hH, w2', z1]
            unfold looks xlook
            have : xheap P (F2.ev P) ⟨H1.t, s2.next⟩ ⟨some d, .load t (.tmp x), ty, pos, af, g⟩ = some (v3, ⟨H1.t, s2.next⟩) := by
              show xhLoad P (F2.ev P) ⟨H1.t, s2.next⟩ t (.tmp x) = _
              unfold xhLoad
              rw [show F2.ev P (.tmp x) = some p0 from g2]
              simp only [xload_next (n2 := H1.next), z4.ok hT a2]
            rw [this]
            simp only [Nat.beq_refl, z5.refl])
          have x2' : s3.F = F3 := by rw [x2, p2, w2']
          have r4' : (run P hk k4).ops n a l2x s3.F D3 (vw s3.H s3.As s3.next) rc3 = .normal F4 D3 H4 rc3 := by rw [x2', x3]; exact r4
          have hrs3 : RsOk a s3.F (l2x ++ []) s3.Rs := by
            rw [x2, List.append_nil]
            exact RsOk.new hrs2 (by rw [nth_eq, ← List.head?_drop, hd1]; rfl) (kp2 (l := a.toList.take j ++ [o]) (by simpa using kp)) x8
          obtain ⟨_, _, s4, y1, y2, y3, _⟩ := serial_ops hn (Kf := kk) l2x k4 ms (j + 1 + 1) s3.F s3.H s3.As s3.next s3.Es s3.Rs _ D3 rc3 F4 D3 H4 rc3 [] (by omega) (by rw [List.append_nil]; exact e4) (by rw [List.append_nil]; exact kp2 (l := a.toList.take j ++ [o, o3]) (by simpa using kp)) hrs3 hs2 x5 x6 x7 x4 r4'
          refine ⟨out, .go ⟨kk + 1, ?_⟩ f1, f2.after (((a3.trans b3).trans c3).trans d3) (((a4.trans b4).trans c4).trans d4)⟩
          rw [code_succ]
          show stepDraw P (run P hk kk) n a F D3 H rc3 = _
          unfold stepDraw
          have hdd : dOps P (run P hk kk) n a a.toList (befores a) 0 ⟨F, H, [], H.next, [], []⟩ = some s4 := by
            rw [← hall, dOps_app _ _ _ _ _ _ u1, hlen, hdm, hms, Nat.zero_add]
            simp only [dOps]
            rw [w1]
            simp only
            rw [x1]
            exact y1
          simp only [hf, ho, hdd, y2]
          congr 1
end
end
end Go.Proofs.YtmlgmgjakhbhjaaGreatDoor.Ab

namespace Go.Proofs.YtmlgmgjakhbhjaaGreatDoor.Ab
open Go Go.Proofs
noncomputable section
attribute [local irreducible] J

/-- What one owns may be lent: a call that only reads it, leaves it. -/
theorem Con.lend {P : Program} {hk : FuncId → Option (List Value → Heap → AEnd)} {f : FuncId} {args : List Value} {M : Imm} {l : Seg} {Qc : Res → Seg → Prop} (s : Seg)
    (c : MLe M (freeze M s) → (s.map (·.1)).Nodup → Con P hk f args (freeze M s) l Qc) : Con P hk f args M (s ++ l) (fun x l'' => ∃ l', l'' = s ++ l' ∧ Qc x l') := by
  intro H hs
  have hle : MLe M (freeze M s) := by
    intro id x hx
    unfold freeze
    cases hr : rowOf s id with
    | none => exact hx
    | some y =>
      obtain ⟨c, t⟩ := y
      obtain ⟨k, _, hm⟩ := rowOf_mem hr
      have := hs.apart _ (List.mem_append_left _ hm)
      simp only at this
      rw [this] at hx
      cases hx
  have hnd := hs.nd
  rw [List.map_append, List.nodup_append] at hnd
  have hne : ∀ p ∈ l, ∀ q ∈ s, q.1 ≠ p.1 := fun p hp q hq => hnd.2.2 _ (List.mem_map_of_mem hq) _ (List.mem_map_of_mem hp)
  have hs1 : Sat (freeze M s) l H := by
    refine { wf := hs.wf, imm := ?_, nd := hnd.2.1, own := fun p hp => hs.own p (List.mem_append_right _ hp), apart := ?_ }
    · intro id c t hx
      unfold freeze at hx
      cases hr : rowOf s id with
      | none => rw [hr] at hx; exact hs.imm id c t hx
      | some y =>
        rw [hr] at hx
        cases hx
        obtain ⟨k, hd, hm⟩ := rowOf_mem hr
        exact ⟨k, hd, hs.own _ (List.mem_append_left _ hm)⟩
    · intro p hp
      unfold freeze
      cases hr : rowOf s p.1 with
      | none => exact hs.apart p (List.mem_append_right _ hp)
      | some y =>
        obtain ⟨c, t⟩ := y
        obtain ⟨k, _, hm⟩ := rowOf_mem hr
        exact absurd rfl (hne p hp (p.1, .row c t k) hm)
  obtain ⟨k, x, H', l', h1, h2, h3, h4⟩ := c hle hnd.1 H hs1
  have hk : ∀ q ∈ s, H'.get q.1 = some q.2 ∧ ∀ p ∈ l', p.1 ≠ q.1 := fun q hq => h3.keep q.1 q.2 (hs.own q (List.mem_append_left _ hq)) fun p hp e => hne p hp q hq e.symm
  refine ⟨k, x, H', s ++ l', h1, ?_, ?_, l', rfl, h4⟩
  · refine { wf := h2.wf, imm := fun id c t hx => h2.imm id c t (hle _ _ hx), nd := ?_, own := ?_, apart := ?_ }
    · rw [List.map_append, List.nodup_append]
      refine ⟨hnd.1, h2.nd, fun a ha b hb e => ?_⟩
      obtain ⟨q, hq, rfl⟩ := List.mem_map.1 ha
      obtain ⟨p, hp, rfl⟩ := List.mem_map.1 hb
      exact (hk q hq).2 p hp e.symm
    · intro p hp
      rcases List.mem_append.1 hp with hp | hp
      · exact (hk p hp).1
      · exact h2.own p hp
    · intro p hp
      rcases List.mem_append.1 hp with hp | hp
      · exact hs.apart p (List.mem_append_left _ hp)
      · have := h2.apart p hp
        cases e : M p.1 with
        | none => rfl
        | some y => rw [hle _ _ e] at this; cases this
  · refine ⟨h3.nxt, fun id o ho hn => ?_⟩
    obtain ⟨a, b⟩ := h3.keep id o ho fun p hp => hn p (List.mem_append_right _ hp)
    refine ⟨a, fun p hp => ?_⟩
    rcases List.mem_append.1 hp with hp | hp
    · exact hn p (List.mem_append_left _ hp)
    · exact b p hp

/-- Slices that grew, each with what it holds. -/
def segs {α : Type} (G : List (Seg × List α)) : Seg := G.flatMap (·.1)
def slOf {α : Type} (g : Seg × List α) : SlOf α := ⟨segA g.1, segC g.1, g.2⟩
def AllOwn (t : TypeId) {α : Type} (e : El α) (G : List (Seg × List α)) : Prop := ∀ g ∈ G, Own t e g.1 g.2
theorem segs_app {α : Type} (G H : List (Seg × List α)) : segs (G ++ H) = segs G ++ segs H := by simp [segs]
theorem segs_one {α : Type} (g : Seg × List α) : segs [g] = g.1 := by simp [segs]
theorem AllOwn.add {t : TypeId} {α : Type} {e : El α} {G : List (Seg × List α)} {g : Seg × List α} (h : AllOwn t e G) (hg : Own t e g.1 g.2) : AllOwn t e (G ++ [g]) := fun x hx => by
  rcases List.mem_append.1 hx with hx | hx
  · exact h x hx
  · cases List.mem_singleton.1 hx; exact hg

theorem rowOf_of : ∀ {s : Seg}, (s.map (·.1)).Nodup → ∀ {id : Nat} {c : List Value} {t : TypeId} {k : Kind}, (id, AObj.row c t k) ∈ s → isDead k = false → rowOf s id = some (c, t)
  | [], _, _, _, _, _, h, _ => by cases h
  | p :: l, hnd, id, c, t, k, h, hd => by
    rw [List.map_cons, List.nodup_cons] at hnd
    rcases List.mem_cons.1 h with h | h2
    · subst h
      simp only [rowOf, Nat.beq_refl, hd]
    · have hne : Nat.beq p.1 id = false := by
        cases e : Nat.beq p.1 id with
        | false => rfl
        | true =>
          have := Nat.eq_of_beq_eq_true e
          exact absurd (this ▸ List.mem_map_of_mem (f := (·.1)) h2) hnd.1
      obtain ⟨i, o⟩ := p
      cases o <;> simp only [rowOf, hne] <;> exact rowOf_of hnd.2 h2 hd
/-- What was lent can be read. -/
theorem isSl_segs {t : TypeId} {α : Type} {e : El α} {G : List (Seg × List α)} {M : Imm} (h : AllOwn t e G) (hnd : ((segs G).map (·.1)).Nodup) (hsz : ∀ x, (e.enc x).length = e.sz) {g : Seg × List α} (hg : g ∈ G) (hl : g.2.length ≤ 1099511627776) : IsSl (freeze M (segs G)) e (segA g.1) g.2 := by
  rcases h g hg with ⟨h1, h2⟩ | ⟨id, h1, h2⟩
  · rw [h1, h2]; exact IsSl.nil _ e
  · rw [h1]
    have hm : (id, AObj.row (g.2.flatMap e.enc) t .opn) ∈ segs G := List.mem_flatMap.2 ⟨g, hg, by rw [h1]; exact .head _⟩
    refine isSl_row (t := t) rfl ?_ hsz hl
    unfold freeze
    rw [rowOf_of hnd hm rfl]
theorem isSl_lent {t : TypeId} {α : Type} {e : El α} {M : Imm} {s : Seg} {l : List α} (h : Own t e s l) (hsz : ∀ x, (e.enc x).length = e.sz) (hl : l.length ≤ 1099511627776) : IsSl (freeze M s) e (segA s) l := isSl_own h (MLe.refl _) hsz hl

section
variable {P : Program} {hk : FuncId → Option (List Value → Heap → AEnd)} {n : Nat} {Q : LPost} {K : List KI} {D : Dl} {M : Imm} {L : List Seg} {rc : RC} {a : Array Oper} {rest : List Oper} {E : Env} {dst : Option Tmp} {f : FuncId} {args : List Value}
/-- A call that something is lent to, and that gives a value, and nothing else. -/
theorem CallJ.lend {u : Value} {s : Seg} {R : List Seg} (hp : Pick L s R) (c : MLe M (freeze M s) → (s.map (·.1)).Nodup → Con P hk f args (freeze M s) [] (Gives u [])) (hr : J P hk n Q (.ops a rest :: K) (E.put dst u) D M L rc) :
    CallJ P hk n Q K D M L rc a rest E dst f args := by
  refine CallJ.mk (l0 := s ++ []) (R := R) (by rw [List.append_nil]; exact hp.perm) (Con.lend s c) ?_ ?_
  · rintro v l'' ⟨l', rfl, hv, rfl⟩
    subst hv
    exact hr.perm (by simpa using hp.perm.symm)
  · rintro v l'' ⟨l', rfl, hv⟩
    exact hv.elim
/-- .. and that gives something of one's own. -/
theorem CallJ.lendR {Qr : Value → Seg → Prop} {s : Seg} {R : List Seg} (hp : Pick L s R) (c : MLe M (freeze M s) → (s.map (·.1)).Nodup → Con P hk f args (freeze M s) [] (Returns Qr))
    (hr : ∀ v l', Qr v l' → J P hk n Q (.ops a rest :: K) (E.put dst v) D M (l' :: L) rc) :
    CallJ P hk n Q K D M L rc a rest E dst f args := by
  refine CallJ.mk (l0 := s ++ []) (R := R) (by rw [List.append_nil]; exact hp.perm) (Con.lend s c) ?_ ?_
  · rintro v l'' ⟨l', rfl, hv⟩
    refine (hr v l' hv).perm ?_
    have := hp.perm
    simp only [List.flatten_cons]
    refine (List.Perm.append_right _ List.perm_append_comm).trans ?_
    rw [List.append_assoc]
    exact List.Perm.append_left _ this.symm
  · rintro v l'' ⟨l', rfl, hv⟩
    exact hv.elim
end
/-- A deferred call, by its body. -/
theorem DCon.of_body {P : Program} {hk : FuncId → Option (List Value → Heap → AEnd)} {f : FuncId} {args : List Value} {M : Imm} {l : Seg} {m : RC} {Rd : Seg → RC → Prop} {fn : Func} {c : Code} {n : Nat} {E0 : Env} (hf : P.funcs[f]? = some fn)
    (hb : fn.body = some c) (hnm : (fn.name == "runtime.NumGoroutine") = false) (hn : fn.ntmps = n) (hle : Nat.ble args.length n = true) (hres : fn.results.toList = []) (hE : argEnv 0 args = E0) (hm : m ≠ .norm)
    (hj : J P hk n (fun _ D _ L rc' x => x = .ret ∧ D = [] ∧ rc' ≠ .norm ∧ Rd L.flatten rc') [.code c] E0 [] M [l] m) : DCon P hk f args M l m Rd := by
  subst hE
  intro H hs
  unfold J at hj
  obtain ⟨out, h1, h2⟩ := hj _ H (agree_args args) (by simpa using hs)
  have hen : enters P f = some (fn, c) := by unfold enters; simp only [hf, hb, hnm]
  have fin : ∀ {o : Out} {D' : Dl} {H' : Heap} {M' : Imm} {L' : List Seg} {rc' : RC} {k : Nat}, (run P hk k).code n c (putArgs 0 args .lf) [] H m = o → scDone o = scKeep H' rc' → rc' ≠ .norm →
      Sat M' (List.flatten L') H' → MLe M M' → Frm l H (List.flatten L') H' → Rd L'.flatten rc' →
      ∃ k H' m' l', (run P hk k).dcall f args H m = some (H', m') ∧ Sat M l' H' ∧ Frm l H l' H' ∧ Rd l' m' := by
    intro o D' H' M' L' rc' k hc hsc hne e2 hm' hfr hr
    refine ⟨k + 1, H', rc', L'.flatten, ?_, ⟨e2.wf, fun id c t h => e2.imm id c t (hm' _ _ h), e2.nd, e2.own, fun p hp => ?_⟩, hfr, hr⟩
    · show stepDcall P (run P hk k) f args H m = _
      unfold stepDcall
      have : scDone ((run P hk k).code n c (putArgs 0 args .lf) [] H m) = some (H', rc') := by
        rw [hc, hsc]
        cases rc' with
        | norm => exact absurd rfl hne
        | ret => rfl
        | pan v b => rfl
      cases m with
      | norm => exact absurd rfl hm
      | ret => simp only [hen, hn, hle, hres, this]
      | pan v b => simp only [hen, hn, hle, hres, this]
    · have := e2.apart p hp
      cases e : M p.1 with
      | none => rfl
      | some y => rw [hm' _ _ e] at this; cases this
  cases h1 with
  | go a b =>
    obtain ⟨k, hk'⟩ := a
    cases b
    obtain ⟨E', M', L', a1, a2, a3, a4, _, a5, a6, a7⟩ := h2
    subst a5
    exact fin (D' := []) hk' rfl a6 a2 a3 (by simpa using a4) a7
  | exit a b c => simp [popTo] at b
  | ret a =>
    obtain ⟨k, hk'⟩ := a
    obtain ⟨E', M', L', a1, a2, a3, a4, _, a5, a6, a7⟩ := h2
    subst a5
    exact fin (D' := []) hk' rfl a6 a2 a3 (by simpa using a4) a7
  | panic a =>
    obtain ⟨k, hk'⟩ := a
    obtain ⟨E', M', L', a1, a2, a3, a4, a5, _⟩ := h2
    cases a5
end
end Go.Proofs.YtmlgmgjakhbhjaaGreatDoor.Ab

namespace Go.Proofs.YtmlgmgjakhbhjaaGreatDoor.Ab
open Go Go.Proofs
noncomputable section

/-- The rows that are only read. -/
def immOf (H : Heap) : Imm := fun id => match H.get id with
  | some (.row cells t .ro) => some (cells, t)
  | _ => none
theorem immOf_get {H : Heap} {id : Nat} {cells : List Value} {t : TypeId} (h : H.get id = some (.row cells t .ro)) : immOf H id = some (cells, t) := by
  unfold immOf; rw [h]
theorem sat_imm {P : Program} {σ : Sig} {H : Heap} {w : World} (hR : Rep P σ H w) : Sat (immOf H) [] H where
  wf := hR.lt
  imm id c t hx := by
    unfold immOf at hx
    split at hx
    · rename_i cells u hg
      cases hx
      exact ⟨.ro, rfl, hg⟩
    · cases hx
  nd := List.nodup_nil
  own p hp := by cases hp
  apart p hp := by cases hp

/-- A contract that gives true, read in the world: the call returns true, and all that stood, stands. -/
theorem calls_true {P : Program} {hk : FuncId → Option (List Value → Heap → AEnd)} (hhk : HkOk P hk) {f : FuncId} {args : List Value} {σ : Sig} {H : Heap} {w : World} (hR : Rep P σ H w) (hno : NoOwn H) (hst : ∀ v ∈ args, Stab H.next v)
    (c : Con P hk f args (immOf H) [] (Gives (.bool true) [])) :
    Calls P f ⟨args.map (ren σ)⟩ w fun e w' => e = .returned (.bool true) ∧ w'.os = w.os ∧ w'.tape = w.tape ∧ w'.output = w.output ∧ w.heap.size ≤ w'.heap.size ∧ ∀ b, b < w.heap.size → w'.heap[b]? = w.heap[b]? := by
  obtain ⟨k, x, H', l', h1, h2, h3, h4⟩ := c H (sat_imm hR)
  cases x with
  | pan v => exact h4.elim
  | ret v =>
    obtain ⟨rfl, rfl⟩ := h4
    have hs := (run_sound hhk k).call f args H (by rw [h1]; simp [toEnd])
    have := hs.2 σ w hR hst
    rw [h1] at this
    refine this.mono fun e w' he => ?_
    obtain ⟨σ', rfl, _, hS, _⟩ := he
    exact ⟨rfl, hS.os, hS.tape, hS.output, hS.size, fun b hb => hS.frame b hb fun i o hi ho => by rw [hno i o hi] at ho; cases ho⟩
end
end Go.Proofs.YtmlgmgjakhbhjaaGreatDoor.Ab

namespace Go.Proofs.YtmlgmgjakhbhjaaGreatDoor.Ab
open Go Go.Proofs
noncomputable section

/-- A block holds these values from a place on. -/
def PieceAt (w : World) (blk off : Nat) (cells : List Value) : Prop := ∃ c t fr, w.heap[blk]? = some (.cells c t fr) ∧ off + cells.length ≤ c.size ∧ ∀ (j : Nat) v, cells[j]? = some v → c[off + j]? = some v
/-- A slice's value, and what it holds. -/
def PtW (w : World) (v : Value) (n : Nat) (cells : List Value) : Prop := (∃ a cap, v = .slice a 0 cap ∧ n = 0) ∨ ∃ blk off cap, v = .slice (some ⟨blk, off, none⟩) n cap ∧ PieceAt w blk off cells
def SlW (w : World) {α : Type} (e : El α) (v : Value) (l : List α) : Prop := PtW w v l.length (l.flatMap e.enc)

/-- An abstract heap goes on. -/
structure Ext (σ : Sig) (H : Heap) (σ' : Sig) (H' : Heap) : Prop where
  nxt : H.next ≤ H'.next
  sig : ∀ i, i < H.next → σ i = σ' i
  get : ∀ id o, H.get id = some o → H'.get id = some o
theorem Ext.refl (σ : Sig) (H : Heap) : Ext σ H σ H := ⟨Nat.le_refl _, fun _ _ => rfl, fun _ _ h => h⟩
theorem Ext.trans {σ σ1 σ2 : Sig} {H H1 H2 : Heap} (a : Ext σ H σ1 H1) (b : Ext σ1 H1 σ2 H2) : Ext σ H σ2 H2 :=
  ⟨Nat.le_trans a.nxt b.nxt, fun i hi => (a.sig i hi).trans (b.sig i (Nat.lt_of_lt_of_le hi a.nxt)), fun id o h => b.get id o (a.get id o h)⟩
theorem Ext.mle {σ σ' : Sig} {H H' : Heap} (h : Ext σ H σ' H') : MLe (immOf H) (immOf H') := by
  intro id x hx
  unfold immOf at hx
  split at hx
  · rename_i cells t hg
    cases hx
    exact immOf_get (h.get _ _ hg)
  · cases hx

theorem addSl {P : Program} {σ : Sig} {H : Heap} {w : World} (hR : Rep P σ H w) (hno : NoOwn H) {α : Type} {e : El α} {v : Value} {l : List α} (h : SlW w e v l) (hl : l.length ≤ 1099511627776)
    {cells : List Value} (hc : l.flatMap e.enc = cells.map (ren σ)) (hs : ∀ v ∈ cells, Stab H.next v) {el' : El α} (hel : cells = l.flatMap el'.enc) (hsz' : ∀ x, (el'.enc x).length = el'.sz) :
    ∃ σ' H' a c, Rep P σ' H' w ∧ NoOwn H' ∧ Ext σ H σ' H' ∧ ren σ' (.slice a l.length c) = v ∧ Stab H'.next (.slice a l.length c) ∧ IsSl (immOf H') el' a l := by
  rcases h with ⟨p, cap, rfl, hn⟩ | ⟨blk, off, cap, rfl, ca, t, fr, h1, h2, h3⟩
  · have hn := List.length_eq_zero_iff.1 hn
    subst hn
    cases p with
    | none => exact ⟨σ, H, none, cap, hR, hno, Ext.refl _ _, rfl, .clo rfl, IsSl.nil _ _⟩
    | some p =>
      obtain ⟨pb, po, ps⟩ := p
      obtain ⟨r, no⟩ := hR.addDead hno ⟨pb, po, cap⟩ 0
      refine ⟨_, _, some ⟨H.next, 0, ps⟩, OPEN, r, no, ⟨Nat.le_succ _, fun i hi => upd_below i hi, fun id o ho => ?_⟩, ?_, ?_, IsSl.empty _ _ _⟩
      · rw [Heap.get_alloc_ne _ _ (by have := hR.lt id o ho; omega)]; exact ho
      · simp only [ren, renAddr, upd_same, Nat.add_zero, renCap, List.length_nil]
        rw [if_neg (Nat.lt_irrefl _), Nat.sub_self, Nat.sub_zero]
      · intro σ1 σ2 hh
        have := hh H.next (Nat.lt_succ_self _)
        simp only [ren, renAddr, renCap, this]
  · have hren : ∀ v ∈ cells, ren σ v = ren (upd σ H.next ⟨blk, off, cap⟩) v := fun v hv => hs v hv _ _ fun i hi => upd_below i hi
    obtain ⟨r, no⟩ := hR.addRo hno (vs := cells) (elem := t) (c := ca) (fr := fr) (p := ⟨blk, off, cap⟩) h1 (by rw [hc, List.length_map] at h2; exact h2)
      (fun j v hv => by rw [← hren v (List.mem_of_getElem? hv)]; exact h3 j _ (by rw [hc, List.getElem?_map, hv]; rfl)) (fun v hv => (hs v hv).mono (Nat.le_succ _))
    refine ⟨_, _, some ⟨H.next, 0, none⟩, OPEN, r, no, ⟨Nat.le_succ _, fun i hi => upd_below i hi, fun id o ho => ?_⟩, ?_, ?_, ?_⟩
    · rw [Heap.get_alloc_ne _ _ (by have := hR.lt id o ho; omega)]; exact ho
    · simp only [ren, renAddr, upd_same, Nat.add_zero, renCap]
      rw [if_neg (Nat.lt_irrefl _), Nat.sub_self, Nat.sub_zero]
    · intro σ1 σ2 hh
      have := hh H.next (Nat.lt_succ_self _)
      simp only [ren, renAddr, renCap, this]
    · exact isSl_row (t := t) hel (immOf_get (Heap.get_alloc_same _ _)) hsz' hl

theorem flatMap_one {α β : Type} (f : α → β) : ∀ l : List α, l.flatMap (fun x => [f x]) = l.map f
  | [] => rfl
  | x :: l => by rw [List.flatMap_cons, List.map_cons, flatMap_one f l]; rfl
theorem eP_clo {σ : Sig} (l : List P2) : l.flatMap eP.enc = (l.flatMap eP.enc).map (ren σ) := by
  induction l with
  | nil => rfl
  | cons x l ih =>
    rw [List.flatMap_cons, List.map_append, ← ih]
    rfl
theorem eP_stab (n : Nat) (l : List P2) : ∀ v ∈ l.flatMap eP.enc, Stab n v := by
  intro v hv
  obtain ⟨x, _, hx⟩ := List.mem_flatMap.1 hv
  have hx : v ∈ [Value.int .i64 x.1, .int .i64 x.2] := hx
  simp only [List.mem_cons, List.not_mem_nil, or_false] at hx
  rcases hx with rfl | rfl <;> exact .clo rfl

def slV {α : Type} (x : SlOf α) : Value := .slice x.a x.l.length x.c
theorem addRows {P : Program} {w : World} : ∀ (rows : List (Value × List P2)) {σ : Sig} {H : Heap}, Rep P σ H w → NoOwn H → (∀ r ∈ rows, SlW w eP r.1 r.2 ∧ r.2.length ≤ 1099511627776) →
    ∃ σ' H' ls, Rep P σ' H' w ∧ NoOwn H' ∧ Ext σ H σ' H' ∧ rowsOf ls = rows.map (·.2) ∧ (∀ x ∈ ls, IsSl (immOf H') eP x.a x.l) ∧ ls.map (fun x => ren σ' (slV x)) = rows.map (·.1) ∧ ∀ x ∈ ls, Stab H'.next (slV x)
  | [], σ, H, hR, hno, _ => ⟨σ, H, [], hR, hno, Ext.refl _ _, rfl, by simp, rfl, by simp⟩
  | r :: rows, σ, H, hR, hno, h => by
    obtain ⟨σ1, H1, a, c, r1, n1, x1, e1, s1, i1⟩ := addSl hR hno (h r (.head _)).1 (h r (.head _)).2 (eP_clo r.2) (eP_stab H.next r.2) (el' := eP) rfl (fun _ => rfl)
    obtain ⟨σ2, H2, ls, r2, n2, x2, e2, i2, v2, s2⟩ := addRows rows r1 n1 fun x hx => h x (.tail _ hx)
    refine ⟨σ2, H2, ⟨a, c, r.2⟩ :: ls, r2, n2, x1.trans x2, ?_, ?_, ?_, ?_⟩
    · simp only [rowsOf, List.map_cons] at e2 ⊢
      rw [e2]
    · intro x hx
      rcases List.mem_cons.1 hx with rfl | hx
      · exact i1.mono x2.mle
      · exact i2 x hx
    · rw [List.map_cons, List.map_cons, v2]
      congr 1
      rw [← e1]
      exact (s1 σ1 σ2 x2.sig).symm
    · intro x hx
      rcases List.mem_cons.1 hx with rfl | hx
      · exact s1.mono x2.nxt
      · exact s2 x hx

/-- A net's edges, out of the world. -/
def NetW (w : World) (v : Value) (rows : List (Value × List P2)) : Prop :=
  PtW w v rows.length (rows.map (·.1)) ∧ ∀ r ∈ rows, SlW w eP r.1 r.2 ∧ r.2.length ≤ 1099511627776
theorem addNet {P : Program} {w : World} {σ : Sig} {H : Heap} (hR : Rep P σ H w) (hno : NoOwn H) {v : Value} {rows : List (Value × List P2)} (h : NetW w v rows) (hl : rows.length ≤ 1099511627776) :
    ∃ σ' H' a c ls, Rep P σ' H' w ∧ NoOwn H' ∧ Ext σ H σ' H' ∧ ren σ' (.slice a ls.length c) = v ∧ Stab H'.next (.slice a ls.length c) ∧ Rows (immOf H') eP a ls ∧ rowsOf ls = rows.map (·.2) := by
  obtain ⟨σ1, H1, ls, r1, n1, x1, e1, i1, v1, s1⟩ := addRows rows hR hno h.2
  have hlen : ls.length = rows.length := by have := congrArg List.length e1; simpa using this
  have hfm : ls.flatMap (fun x => [ren σ1 (slV x)]) = rows.map (·.1) := by rw [← v1]; exact flatMap_one _ ls
  obtain ⟨σ2, H2, a, c, r2, n2, x2, e2, s2, i2⟩ := addSl r1 n1 (v := v) (l := ls) (e := (⟨1, fun x => [ren σ1 (slV x)], ⟨none, 0, []⟩⟩ : El (SlOf P2)))
    (by
      show PtW w v ls.length (ls.flatMap fun x => [ren σ1 (slV x)])
      rw [hlen, hfm]
      exact h.1)
    (by rw [hlen]; exact hl) (cells := ls.flatMap (eSl P2).enc) (by
      show ls.flatMap (fun x => [ren σ1 (slV x)]) = (ls.flatMap fun x => [slV x]).map (ren σ1)
      rw [List.map_flatMap]
      rfl)
    (by
      intro u hu
      obtain ⟨x, hx, hu⟩ := List.mem_flatMap.1 hu
      cases List.mem_singleton.1 hu
      exact s1 x hx) (el' := eSl P2) rfl (fun _ => rfl)
  exact ⟨σ2, H2, a, c, ls, r2, n2, x1.trans x2, e2, s2, ⟨i2, fun x hx => (i1 x hx).mono x2.mle⟩, e1⟩
end
end Go.Proofs.YtmlgmgjakhbhjaaGreatDoor.Ab

namespace Go.Proofs.YtmlgmgjakhbhjaaGreatDoor.Ab
open Go Go.Proofs
noncomputable section
def tt : TT := [
  (1, ⟨.func, 1, 8, false, [.nilFunc]⟩),
  (2, ⟨(.int .i64), 1, 8, false, [(.int .i64 0)]⟩),
  (3, ⟨(.int .i64), 1, 8, false, [(.int .i64 0)]⟩),
  (4, ⟨.bool, 1, 1, false, [(.bool false)]⟩),
  (5, ⟨(.int .u8), 1, 1, false, [(.int .u8 0)]⟩),
  (6, ⟨(.int .u8), 1, 1, false, [(.int .u8 0)]⟩),
  (7, ⟨(.struct [(0, 2), (1, 3), (2, 4), (3, 6)]), 4, 24, true, [(.int .i64 0), (.int .i64 0), (.bool false), (.int .u8 0)]⟩),
  (8, ⟨(.struct [(0, 2), (1, 3), (2, 4), (3, 6)]), 4, 24, true, [(.int .i64 0), (.int .i64 0), (.bool false), (.int .u8 0)]⟩),
  (9, ⟨.str, 1, 16, false, [(.string ⟨⟨[]⟩⟩)]⟩),
  (10, ⟨.str, 1, 16, false, [(.string ⟨⟨[]⟩⟩)]⟩),
  (11, ⟨.str, 1, 16, false, [(.string ⟨⟨[]⟩⟩)]⟩),
  (12, ⟨(.int .u64), 1, 8, false, [(.int .u64 0)]⟩),
  (13, ⟨.other, 2, 24, true, [(.string ⟨⟨[]⟩⟩), (.int .u64 0)]⟩),
  (14, ⟨.other, 2, 24, true, [(.string ⟨⟨[]⟩⟩), (.int .u64 0)]⟩),
  (15, ⟨(.ptr 212), 1, 8, false, [(.pointer none)]⟩),
  (16, ⟨(.ptr 215), 1, 8, false, [(.pointer none)]⟩),
  (17, ⟨(.ptr 223), 1, 8, false, [(.pointer none)]⟩),
  (18, ⟨.other, 1, 8, true, [(.pointer none)]⟩),
  (19, ⟨.other, 1, 8, true, [(.pointer none)]⟩),
  (20, ⟨.iface, 1, 16, false, [.nilIface]⟩),
  (21, ⟨(.int .i32), 1, 4, false, [(.int .i32 0)]⟩),
  (22, ⟨(.slice 46), 1, 24, false, [(.slice none 0 0)]⟩),
  (23, ⟨(.struct [(0, 22)]), 1, 24, true, [(.slice none 0 0)]⟩),
  (24, ⟨(.struct [(0, 22)]), 1, 24, true, [(.slice none 0 0)]⟩),
  (25, ⟨(.slice 4), 1, 24, false, [(.slice none 0 0)]⟩),
  (26, ⟨(.struct [(0, 22), (1, 25)]), 2, 48, true, [(.slice none 0 0), (.slice none 0 0)]⟩),
  (27, ⟨(.struct [(0, 22), (1, 25)]), 2, 48, true, [(.slice none 0 0), (.slice none 0 0)]⟩),
  (28, ⟨(.slice 3), 1, 24, false, [(.slice none 0 0)]⟩),
  (29, ⟨(.struct [(0, 3), (1, 27), (3, 28)]), 4, 80, true, [(.int .i64 0), (.slice none 0 0), (.slice none 0 0), (.slice none 0 0)]⟩),
  (30, ⟨(.struct [(0, 3), (1, 27), (3, 28)]), 4, 80, true, [(.int .i64 0), (.slice none 0 0), (.slice none 0 0), (.slice none 0 0)]⟩),
  (31, ⟨.func, 1, 8, false, [.nilFunc]⟩),
  (32, ⟨.func, 1, 8, false, [.nilFunc]⟩),
  (33, ⟨.func, 1, 8, false, [.nilFunc]⟩),
  (34, ⟨(.int .i64), 1, 8, false, [(.int .i64 0)]⟩),
  (36, ⟨.func, 1, 8, false, [.nilFunc]⟩),
  (38, ⟨.func, 1, 8, false, [.nilFunc]⟩),
  (39, ⟨.func, 1, 8, false, [.nilFunc]⟩),
  (40, ⟨.func, 1, 8, false, [.nilFunc]⟩),
  (41, ⟨.func, 1, 8, false, [.nilFunc]⟩),
  (42, ⟨.func, 1, 8, false, [.nilFunc]⟩),
  (43, ⟨.func, 1, 8, false, [.nilFunc]⟩),
  (44, ⟨.func, 1, 8, false, [.nilFunc]⟩),
  (45, ⟨.func, 1, 8, false, [.nilFunc]⟩),
  (46, ⟨(.slice 48), 1, 24, false, [(.slice none 0 0)]⟩),
  (47, ⟨(.struct [(0, 3), (1, 3)]), 2, 16, true, [(.int .i64 0), (.int .i64 0)]⟩),
  (48, ⟨(.struct [(0, 3), (1, 3)]), 2, 16, true, [(.int .i64 0), (.int .i64 0)]⟩),
  (49, ⟨.func, 1, 8, false, [.nilFunc]⟩),
  (50, ⟨.func, 1, 8, false, [.nilFunc]⟩),
  (51, ⟨(.slice 9), 1, 24, false, [(.slice none 0 0)]⟩),
  (52, ⟨(.slice 95), 1, 24, false, [(.slice none 0 0)]⟩),
  (53, ⟨(.struct [(0, 51), (1, 51), (2, 52)]), 3, 72, true, [(.slice none 0 0), (.slice none 0 0), (.slice none 0 0)]⟩),
  (54, ⟨(.struct [(0, 51), (1, 51), (2, 52)]), 3, 72, true, [(.slice none 0 0), (.slice none 0 0), (.slice none 0 0)]⟩),
  (55, ⟨(.struct [(0, 34), (1, 3)]), 2, 16, true, [(.int .i64 0), (.int .i64 0)]⟩),
  (56, ⟨(.struct [(0, 34), (1, 3)]), 2, 16, true, [(.int .i64 0), (.int .i64 0)]⟩),
  (58, ⟨.func, 1, 8, false, [.nilFunc]⟩),
  (60, ⟨.func, 1, 8, false, [.nilFunc]⟩),
  (61, ⟨(.struct []), 0, 0, true, []⟩),
  (62, ⟨(.struct []), 0, 0, true, []⟩),
  (64, ⟨(.ptr 68), 1, 8, false, [(.pointer none)]⟩),
  (65, ⟨(.map 9 3), 1, 8, false, [(.map none)]⟩),
  (66, ⟨(.slice 28), 1, 24, false, [(.slice none 0 0)]⟩),
  (67, ⟨(.struct [(0, 24), (1, 3), (2, 66), (3, 65), (4, 27)]), 6, 112, true, [(.slice none 0 0), (.int .i64 0), (.slice none 0 0), (.map none), (.slice none 0 0), (.slice none 0 0)]⟩),
  (68, ⟨(.struct [(0, 24), (1, 3), (2, 66), (3, 65), (4, 27)]), 6, 112, true, [(.slice none 0 0), (.int .i64 0), (.slice none 0 0), (.map none), (.slice none 0 0), (.slice none 0 0)]⟩),
  (70, ⟨.func, 1, 8, false, [.nilFunc]⟩),
  (71, ⟨.func, 1, 8, false, [.nilFunc]⟩),
  (72, ⟨.func, 1, 8, false, [.nilFunc]⟩),
  (73, ⟨(.struct [(0, 28), (1, 4)]), 2, 32, true, [(.slice none 0 0), (.bool false)]⟩),
  (74, ⟨(.struct [(0, 28), (1, 4)]), 2, 32, true, [(.slice none 0 0), (.bool false)]⟩),
  (75, ⟨.func, 1, 8, false, [.nilFunc]⟩),
  (76, ⟨.func, 1, 8, false, [.nilFunc]⟩),
  (77, ⟨.func, 1, 8, false, [.nilFunc]⟩),
  (78, ⟨.func, 1, 8, false, [.nilFunc]⟩),
  (79, ⟨.func, 1, 8, false, [.nilFunc]⟩),
  (80, ⟨.func, 1, 8, false, [.nilFunc]⟩),
  (82, ⟨(.slice 90), 1, 24, false, [(.slice none 0 0)]⟩),
  (84, ⟨.func, 1, 8, false, [.nilFunc]⟩),
  (85, ⟨.func, 1, 8, false, [.nilFunc]⟩),
  (86, ⟨(.slice 92), 1, 24, false, [(.slice none 0 0)]⟩),
  (88, ⟨.func, 1, 8, false, [.nilFunc]⟩),
  (89, ⟨(.struct [(0, 3), (1, 9), (2, 3)]), 3, 32, true, [(.int .i64 0), (.string ⟨⟨[]⟩⟩), (.int .i64 0)]⟩),
  (90, ⟨(.struct [(0, 3), (1, 9), (2, 3)]), 3, 32, true, [(.int .i64 0), (.string ⟨⟨[]⟩⟩), (.int .i64 0)]⟩),
  (91, ⟨(.struct [(0, 90), (3, 82)]), 4, 56, true, [(.int .i64 0), (.string ⟨⟨[]⟩⟩), (.int .i64 0), (.slice none 0 0)]⟩),
  (92, ⟨(.struct [(0, 90), (3, 82)]), 4, 56, true, [(.int .i64 0), (.string ⟨⟨[]⟩⟩), (.int .i64 0), (.slice none 0 0)]⟩),
  (93, ⟨.func, 1, 8, false, [.nilFunc]⟩),
  (94, ⟨(.struct [(0, 3), (1, 28)]), 2, 32, true, [(.int .i64 0), (.slice none 0 0)]⟩),
  (95, ⟨(.struct [(0, 3), (1, 28)]), 2, 32, true, [(.int .i64 0), (.slice none 0 0)]⟩),
  (96, ⟨.func, 1, 8, false, [.nilFunc]⟩),
  (97, ⟨.func, 1, 8, false, [.nilFunc]⟩),
  (98, ⟨(.slice 131), 1, 24, false, [(.slice none 0 0)]⟩),
  (99, ⟨.func, 1, 8, false, [.nilFunc]⟩),
  (100, ⟨(.struct []), 0, 0, true, []⟩),
  (102, ⟨(.ptr 106), 1, 8, false, [(.pointer none)]⟩),
  (103, ⟨.func, 1, 8, false, [.nilFunc]⟩),
  (104, ⟨.func, 1, 8, false, [.nilFunc]⟩),
  (105, ⟨(.struct [(0, 54), (3, 3), (4, 98), (5, 98), (6, 28), (7, 22), (8, 3)]), 9, 184, true, [(.slice none 0 0), (.slice none 0 0), (.slice none 0 0), (.int .i64 0), (.slice none 0 0), (.slice none 0 0), (.slice none 0 0), (.slice none 0 0), (.int .i64 0)]⟩),
  (106, ⟨(.struct [(0, 54), (3, 3), (4, 98), (5, 98), (6, 28), (7, 22), (8, 3)]), 9, 184, true, [(.slice none 0 0), (.slice none 0 0), (.slice none 0 0), (.int .i64 0), (.slice none 0 0), (.slice none 0 0), (.slice none 0 0), (.slice none 0 0), (.int .i64 0)]⟩),
  (107, ⟨.func, 1, 8, false, [.nilFunc]⟩),
  (108, ⟨.func, 1, 8, false, [.nilFunc]⟩),
  (109, ⟨.func, 1, 8, false, [.nilFunc]⟩),
  (110, ⟨.func, 1, 8, false, [.nilFunc]⟩),
  (111, ⟨.func, 1, 8, false, [.nilFunc]⟩),
  (113, ⟨.func, 1, 8, false, [.nilFunc]⟩),
  (114, ⟨.func, 1, 8, false, [.nilFunc]⟩),
  (115, ⟨(.struct [(0, 3)]), 1, 8, true, [(.int .i64 0)]⟩),
  (116, ⟨(.struct [(0, 3)]), 1, 8, true, [(.int .i64 0)]⟩),
  (118, ⟨.func, 1, 8, false, [.nilFunc]⟩),
  (120, ⟨.func, 1, 8, false, [.nilFunc]⟩),
  (121, ⟨(.ptr 123), 1, 8, false, [(.pointer none)]⟩),
  (122, ⟨(.struct [(0, 82), (1, 3), (2, 86)]), 3, 56, true, [(.slice none 0 0), (.int .i64 0), (.slice none 0 0)]⟩),
  (123, ⟨(.struct [(0, 82), (1, 3), (2, 86)]), 3, 56, true, [(.slice none 0 0), (.int .i64 0), (.slice none 0 0)]⟩),
  (124, ⟨.func, 1, 8, false, [.nilFunc]⟩),
  (125, ⟨.func, 1, 8, false, [.nilFunc]⟩),
  (126, ⟨.func, 1, 8, false, [.nilFunc]⟩),
  (127, ⟨.func, 1, 8, false, [.nilFunc]⟩),
  (128, ⟨.func, 1, 8, false, [.nilFunc]⟩),
  (129, ⟨.func, 1, 8, false, [.nilFunc]⟩),
  (130, ⟨(.struct [(0, 3), (1, 3)]), 2, 16, true, [(.int .i64 0), (.int .i64 0)]⟩),
  (131, ⟨(.struct [(0, 3), (1, 3)]), 2, 16, true, [(.int .i64 0), (.int .i64 0)]⟩),
  (132, ⟨.func, 1, 8, false, [.nilFunc]⟩),
  (133, ⟨.func, 1, 8, false, [.nilFunc]⟩),
  (134, ⟨.func, 1, 8, false, [.nilFunc]⟩),
  (135, ⟨.func, 1, 8, false, [.nilFunc]⟩),
  (136, ⟨.func, 1, 8, false, [.nilFunc]⟩),
  (137, ⟨.func, 1, 8, false, [.nilFunc]⟩),
  (139, ⟨.func, 1, 8, false, [.nilFunc]⟩),
  (140, ⟨(.slice 25), 1, 24, false, [(.slice none 0 0)]⟩),
  (141, ⟨.func, 1, 8, false, [.nilFunc]⟩),
  (142, ⟨.func, 1, 8, false, [.nilFunc]⟩),
  (143, ⟨.func, 1, 8, false, [.nilFunc]⟩),
  (144, ⟨(.map 3 3), 1, 8, false, [(.map none)]⟩),
  (145, ⟨.func, 1, 8, false, [.nilFunc]⟩),
  (146, ⟨.func, 1, 8, false, [.nilFunc]⟩),
  (147, ⟨.func, 1, 8, false, [.nilFunc]⟩),
  (148, ⟨.func, 1, 8, false, [.nilFunc]⟩),
  (149, ⟨.func, 1, 8, false, [.nilFunc]⟩),
  (150, ⟨.func, 1, 8, false, [.nilFunc]⟩),
  (151, ⟨(.chan 3), 1, 8, false, [(.chan none)]⟩),
  (152, ⟨.func, 1, 8, false, [.nilFunc]⟩),
  (153, ⟨(.slice 5), 1, 24, false, [(.slice none 0 0)]⟩),
  (154, ⟨.func, 1, 8, false, [.nilFunc]⟩),
  (155, ⟨.func, 1, 8, false, [.nilFunc]⟩),
  (156, ⟨.func, 1, 8, false, [.nilFunc]⟩),
  (157, ⟨.func, 1, 8, false, [.nilFunc]⟩),
  (158, ⟨.func, 1, 8, false, [.nilFunc]⟩),
  (159, ⟨.func, 1, 8, false, [.nilFunc]⟩),
  (160, ⟨.func, 1, 8, false, [.nilFunc]⟩),
  (161, ⟨.func, 1, 8, false, [.nilFunc]⟩),
  (162, ⟨.func, 1, 8, false, [.nilFunc]⟩),
  (163, ⟨.func, 1, 8, false, [.nilFunc]⟩),
  (164, ⟨.func, 1, 8, false, [.nilFunc]⟩),
  (165, ⟨.func, 1, 8, false, [.nilFunc]⟩),
  (166, ⟨.func, 1, 8, false, [.nilFunc]⟩),
  (167, ⟨.func, 1, 8, false, [.nilFunc]⟩),
  (168, ⟨.func, 1, 8, false, [.nilFunc]⟩),
  (169, ⟨.func, 1, 8, false, [.nilFunc]⟩),
  (170, ⟨.func, 1, 8, false, [.nilFunc]⟩),
  (171, ⟨.func, 1, 8, false, [.nilFunc]⟩),
  (172, ⟨.func, 1, 8, false, [.nilFunc]⟩),
  (173, ⟨.func, 1, 8, false, [.nilFunc]⟩),
  (174, ⟨.func, 1, 8, false, [.nilFunc]⟩),
  (175, ⟨.func, 1, 8, false, [.nilFunc]⟩),
  (176, ⟨(.int .u64), 1, 8, false, [(.int .u64 0)]⟩),
  (177, ⟨.func, 1, 8, false, [.nilFunc]⟩),
  (178, ⟨.func, 1, 8, false, [.nilFunc]⟩),
  (179, ⟨.func, 1, 8, false, [.nilFunc]⟩),
  (180, ⟨.func, 1, 8, false, [.nilFunc]⟩),
  (181, ⟨(.int .i64), 1, 8, false, [(.int .i64 0)]⟩),
  (183, ⟨.func, 1, 8, false, [.nilFunc]⟩),
  (184, ⟨.func, 1, 8, false, [.nilFunc]⟩),
  (185, ⟨.func, 1, 8, false, [.nilFunc]⟩),
  (186, ⟨.func, 1, 8, false, [.nilFunc]⟩),
  (187, ⟨.func, 1, 8, false, [.nilFunc]⟩),
  (188, ⟨(.int .u32), 1, 4, false, [(.int .u32 0)]⟩),
  (189, ⟨.func, 1, 8, false, [.nilFunc]⟩),
  (190, ⟨(.int .u64), 1, 8, false, [(.int .u64 0)]⟩),
  (191, ⟨.func, 1, 8, false, [.nilFunc]⟩),
  (192, ⟨(.int .u64), 1, 8, false, [(.int .u64 0)]⟩),
  (193, ⟨.func, 1, 8, false, [.nilFunc]⟩),
  (194, ⟨.func, 1, 8, false, [.nilFunc]⟩),
  (195, ⟨.func, 1, 8, false, [.nilFunc]⟩),
  (196, ⟨(.ptr 3), 1, 8, false, [(.pointer none)]⟩),
  (197, ⟨.func, 1, 8, false, [.nilFunc]⟩),
  (198, ⟨.func, 1, 8, false, [.nilFunc]⟩),
  (199, ⟨(.array 24 5), 24, 24, true, [(.int .u8 0), (.int .u8 0), (.int .u8 0), (.int .u8 0), (.int .u8 0), (.int .u8 0), (.int .u8 0), (.int .u8 0), (.int .u8 0), (.int .u8 0), (.int .u8 0), (.int .u8 0), (.int .u8 0), (.int .u8 0), (.int .u8 0), (.int .u8 0), (.int .u8 0), (.int .u8 0), (.int .u8 0), (.int .u8 0), (.int .u8 0), (.int .u8 0), (.int .u8 0), (.int .u8 0)]⟩),
  (200, ⟨.func, 1, 8, false, [.nilFunc]⟩),
  (202, ⟨.func, 1, 8, false, [.nilFunc]⟩),
  (203, ⟨(.ptr 192), 1, 8, false, [(.pointer none)]⟩),
  (204, ⟨.func, 1, 8, false, [.nilFunc]⟩),
  (205, ⟨.func, 1, 8, false, [.nilFunc]⟩),
  (206, ⟨(.array 20 190), 20, 160, true, [(.int .u64 0), (.int .u64 0), (.int .u64 0), (.int .u64 0), (.int .u64 0), (.int .u64 0), (.int .u64 0), (.int .u64 0), (.int .u64 0), (.int .u64 0), (.int .u64 0), (.int .u64 0), (.int .u64 0), (.int .u64 0), (.int .u64 0), (.int .u64 0), (.int .u64 0), (.int .u64 0), (.int .u64 0), (.int .u64 0)]⟩),
  (207, ⟨(.array 65 5), 65, 65, true, [(.int .u8 0), (.int .u8 0), (.int .u8 0), (.int .u8 0), (.int .u8 0), (.int .u8 0), (.int .u8 0), (.int .u8 0), (.int .u8 0), (.int .u8 0), (.int .u8 0), (.int .u8 0), (.int .u8 0), (.int .u8 0), (.int .u8 0), (.int .u8 0), (.int .u8 0), (.int .u8 0), (.int .u8 0), (.int .u8 0), (.int .u8 0), (.int .u8 0), (.int .u8 0), (.int .u8 0), (.int .u8 0), (.int .u8 0), (.int .u8 0), (.int .u8 0), (.int .u8 0), (.int .u8 0), (.int .u8 0), (.int .u8 0), (.int .u8 0), (.int .u8 0), (.int .u8 0), (.int .u8 0), (.int .u8 0), (.int .u8 0), (.int .u8 0), (.int .u8 0), (.int .u8 0), (.int .u8 0), (.int .u8 0), (.int .u8 0), (.int .u8 0), (.int .u8 0), (.int .u8 0), (.int .u8 0), (.int .u8 0), (.int .u8 0), (.int .u8 0), (.int .u8 0), (.int .u8 0), (.int .u8 0), (.int .u8 0), (.int .u8 0), (.int .u8 0), (.int .u8 0), (.int .u8 0), (.int .u8 0), (.int .u8 0), (.int .u8 0), (.int .u8 0), (.int .u8 0), (.int .u8 0)]⟩),
  (208, ⟨(.array 32 5), 32, 32, true, [(.int .u8 0), (.int .u8 0), (.int .u8 0), (.int .u8 0), (.int .u8 0), (.int .u8 0), (.int .u8 0), (.int .u8 0), (.int .u8 0), (.int .u8 0), (.int .u8 0), (.int .u8 0), (.int .u8 0), (.int .u8 0), (.int .u8 0), (.int .u8 0), (.int .u8 0), (.int .u8 0), (.int .u8 0), (.int .u8 0), (.int .u8 0), (.int .u8 0), (.int .u8 0), (.int .u8 0), (.int .u8 0), (.int .u8 0), (.int .u8 0), (.int .u8 0), (.int .u8 0), (.int .u8 0), (.int .u8 0), (.int .u8 0)]⟩),
  (209, ⟨(.array 64 5), 64, 64, true, [(.int .u8 0), (.int .u8 0), (.int .u8 0), (.int .u8 0), (.int .u8 0), (.int .u8 0), (.int .u8 0), (.int .u8 0), (.int .u8 0), (.int .u8 0), (.int .u8 0), (.int .u8 0), (.int .u8 0), (.int .u8 0), (.int .u8 0), (.int .u8 0), (.int .u8 0), (.int .u8 0), (.int .u8 0), (.int .u8 0), (.int .u8 0), (.int .u8 0), (.int .u8 0), (.int .u8 0), (.int .u8 0), (.int .u8 0), (.int .u8 0), (.int .u8 0), (.int .u8 0), (.int .u8 0), (.int .u8 0), (.int .u8 0), (.int .u8 0), (.int .u8 0), (.int .u8 0), (.int .u8 0), (.int .u8 0), (.int .u8 0), (.int .u8 0), (.int .u8 0), (.int .u8 0), (.int .u8 0), (.int .u8 0), (.int .u8 0), (.int .u8 0), (.int .u8 0), (.int .u8 0), (.int .u8 0), (.int .u8 0), (.int .u8 0), (.int .u8 0), (.int .u8 0), (.int .u8 0), (.int .u8 0), (.int .u8 0), (.int .u8 0), (.int .u8 0), (.int .u8 0), (.int .u8 0), (.int .u8 0), (.int .u8 0), (.int .u8 0), (.int .u8 0), (.int .u8 0)]⟩),
  (210, ⟨.func, 1, 8, false, [.nilFunc]⟩),
  (211, ⟨.other, 4, 40, true, [(.pointer none), (.pointer none), (.pointer none), (.string ⟨⟨[]⟩⟩)]⟩),
  (212, ⟨.other, 4, 40, true, [(.pointer none), (.pointer none), (.pointer none), (.string ⟨⟨[]⟩⟩)]⟩),
  (213, ⟨(.array 0 16), 0, 0, true, []⟩),
  (214, ⟨.other, 0, 0, true, []⟩),
  (215, ⟨.other, 0, 0, true, []⟩),
  (216, ⟨(.int .u8), 1, 1, false, [(.int .u8 0)]⟩),
  (217, ⟨(.int .u8), 1, 1, false, [(.int .u8 0)]⟩),
  (218, ⟨.func, 1, 8, false, [.nilFunc]⟩),
  (219, ⟨(.ptr 5), 1, 8, false, [(.pointer none)]⟩),
  (220, ⟨(.int .i32), 1, 4, false, [(.int .i32 0)]⟩),
  (221, ⟨(.int .i32), 1, 4, false, [(.int .i32 0)]⟩),
  (222, ⟨.other, 11, 48, true, [(.int .u64 0), (.int .u64 0), (.int .u32 0), (.int .u8 0), (.int .u8 0), (.int .u8 0), (.int .u8 0), .nilFunc, (.pointer none), (.int .i32 0), (.int .i32 0)]⟩),
  (223, ⟨.other, 11, 48, true, [(.int .u64 0), (.int .u64 0), (.int .u32 0), (.int .u8 0), (.int .u8 0), (.int .u8 0), (.int .u8 0), .nilFunc, (.pointer none), (.int .i32 0), (.int .i32 0)]⟩)]
theorem tt_ok : TOk Tryz.prog tt := ttB_ok (by kernel_rfl)
theorem follows_ok : Tryz.prog.follows .mixedOrders = true := by kernel_rfl
end
end Go.Proofs.YtmlgmgjakhbhjaaGreatDoor.Ab

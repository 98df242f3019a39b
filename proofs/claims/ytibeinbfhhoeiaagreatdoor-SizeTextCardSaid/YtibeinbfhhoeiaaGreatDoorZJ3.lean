/- Walking code with symbolic values, 7: regions whose order is drawn, that are as good as in a row. Walking code with symbolic values: a drawn region with a look right behind an effect, that need not wait for it. Walking code with symbolic values: a drawn region whose looks at cells of one's own that stand float round effects and fresh things. Drawn regions with slices, walked in a turn of their own. -/
import Derived.Test.YtibeinbfhhoeiaaGreatDoorZJ2
namespace Go.Proofs.YtibeinbfhhoeiaaGreatDoor.Ab
open Go
noncomputable section

/- ## ids only grow -/
def EndN (n : Nat) : AEnd → Prop
  | .none => True
  | .ret _ H => n ≤ H.next
  | .panic _ H => n ≤ H.next
def OutN (n : Nat) : Out → Prop
  | .none => True
  | .normal _ _ H _ => n ≤ H.next
  | .exit _ _ _ H _ => n ≤ H.next
  | .ret _ _ H _ => n ≤ H.next
  | .panic _ _ _ H _ => n ≤ H.next
def HkN (hk : FuncId → Option (List Value → Heap → AEnd)) : Prop := ∀ f g args H, hk f = some g → EndN H.next (g args H)

structure NM (r : Rec) : Prop where
  code : ∀ n c F D H rc, OutN H.next (r.code n c F D H rc)
  ops : ∀ n a l F D H rc, OutN H.next (r.ops n a l F D H rc)
  call : ∀ f args H, EndN H.next (r.call f args H)
  dcall : ∀ f args H m H' m', r.dcall f args H m = some (H', m') → H.next ≤ H'.next
  defers : ∀ fn F D m H, EndN H.next (r.defers fn F D m H)

theorem xput_next {H H' : Heap} {a : Addr} {vs : List Value} (h : xput H a vs = some H') : H'.next = H.next := by
  unfold xput at h
  split at h
  · split at h
    · simp only [Option.some.injEq] at h; subst h; rfl
    · cases h
  · cases h

theorem xheap_next {P : Program} {ρ : Operand → Option Value} {H H' : Heap} {o : Oper} {v : Value} (h : xheap P ρ H o = some (v, H')) : H.next ≤ H'.next := by
  unfold xheap at h
  split at h
  · unfold xhLoad at h; split at h <;> (try split at h) <;> first | (cases h; exact Nat.le_refl _) | (cases h; exact Nat.le_succ _) | (cases h; done)
  · unfold xhStore at h
    split at h
    · split at h
      · rename_i hx
        simp only [Option.some.injEq, Prod.mk.injEq] at h
        rw [← h.2]
        unfold xstore at hx
        split at hx
        · split at hx
          · split at hx
            · rw [xput_next hx]; exact Nat.le_refl _
            · cases hx
          · cases hx
        · cases hx
      · cases h
    · cases h
  · unfold xalloc at h; split at h
    · simp only [Option.some.injEq, xnewVar, Prod.mk.injEq] at h; rw [← h.2]; exact Nat.le_succ _
    · cases h
  · unfold xhBox at h; split at h
    · simp only [Option.some.injEq, xnewVar, Prod.mk.injEq] at h; rw [← h.2]; exact Nat.le_succ _
    · cases h
  · unfold xhBuildSlice at h; split at h
    · unfold xbuildSlice at h
      repeat' split at h
      all_goals first | (cases h; exact Nat.le_refl _) | (cases h; exact Nat.le_succ _) | (cases h; done)
    · cases h
  · unfold xhMakeSlice at h; split at h
    · unfold xmakeSlice at h
      repeat' split at h
      all_goals first | (cases h; exact Nat.le_refl _) | (cases h; exact Nat.le_succ _) | (cases h; done)
    · cases h
  · unfold xhMakeMap at h; split at h
    · unfold xmakeMap at h
      repeat' split at h
      all_goals first | (cases h; exact Nat.le_refl _) | (cases h; exact Nat.le_succ _) | (cases h; done)
    · cases h
  · unfold xhMakeChan at h; split at h
    · unfold xmakeChan at h
      repeat' split at h
      all_goals first | (cases h; exact Nat.le_refl _) | (cases h; exact Nat.le_succ _) | (cases h; done)
    · cases h
  · unfold xhSlice at h; split at h
    · unfold xslice at h
      repeat' split at h
      all_goals first | (cases h; exact Nat.le_refl _) | (cases h; exact Nat.le_succ _) | (cases h; done)
    · cases h
  · unfold xhLookup at h; split at h <;> (try split at h) <;> first | (cases h; exact Nat.le_refl _) | (cases h; exact Nat.le_succ _) | (cases h; done)
  · unfold xhMapUpdate at h
    split at h
    · split at h
      · rename_i hx
        simp only [Option.some.injEq, Prod.mk.injEq] at h
        rw [← h.2]
        unfold xmapUpdate at hx
        repeat' split at hx
        all_goals first | (cases hx; exact Nat.le_refl _) | (cases hx; done)
      · cases h
    · cases h
  · unfold xhMapUpdate at h
    split at h
    · split at h
      · rename_i hx
        simp only [Option.some.injEq, Prod.mk.injEq] at h
        rw [← h.2]
        unfold xmapUpdate at hx
        repeat' split at hx
        all_goals first | (cases hx; exact Nat.le_refl _) | (cases hx; done)
      · cases h
    · cases h
  · unfold xhConv at h; split at h <;> (try split at h) <;> first | (cases h; exact Nat.le_refl _) | (cases h; exact Nat.le_succ _) | (cases h; done)
  · unfold xhCall at h
    split at h
    · unfold xhAppend at h
      split at h
      · unfold xappend at h
        repeat' split at h
        all_goals first | (cases h; done) | skip
        unfold xappendAt at h
        repeat' split at h
        all_goals first
          | (cases h; exact Nat.le_refl _)
          | (cases h; exact Nat.le_succ _)
          | (cases h; done)
          | (rename_i hx; cases h; rw [xput_next hx]; exact Nat.le_refl _)
      · cases h
    · unfold xhClear at h
      split at h
      · split at h
        · rename_i hx
          simp only [Option.some.injEq, Prod.mk.injEq] at h
          rw [← h.2]
          unfold xclear at hx
          repeat' split at hx
          all_goals first | (rw [xput_next hx]; exact Nat.le_refl _) | (cases hx; exact Nat.le_refl _) | (cases hx; done)
        · cases h
      · cases h
    · unfold xhLen at h; split at h <;> (try split at h) <;> first | (cases h; exact Nat.le_refl _) | (cases h; exact Nat.le_succ _) | (cases h; done)
    · cases h
  · cases h

/-- What only looks, leaves the heap alone. -/
theorem xheap_look {P : Program} {ρ : Operand → Option Value} {H H' : Heap} {o : Oper} {v : Value} (h : xheap P ρ H o = some (v, H'))
    (ho : (match o.op with | .load _ _ => true | .lookup _ _ _ _ => true | .convert _ _ _ => true | .call c => (match c.callee with | .builtin .len => true | _ => false) | _ => false) = true) : H' = H := by
  unfold xheap at h
  split at h
  all_goals (try (rename_i hop; rw [hop] at ho; simp only [Bool.false_eq_true] at ho; done))
  · unfold xhLoad at h; split at h <;> (try split at h) <;> first | (cases h; rfl) | (cases h; done)
  · unfold xhLookup at h; split at h <;> (try split at h) <;> first | (cases h; rfl) | (cases h; done)
  · unfold xhConv at h; split at h <;> (try split at h) <;> first | (cases h; rfl) | (cases h; done)
  · rename_i c hop
    rw [hop] at ho
    simp only at ho
    unfold xhCall at h
    split at h
    · rename_i hc; rw [hc] at ho; cases ho
    · rename_i hc; rw [hc] at ho; cases ho
    · unfold xhLen at h; split at h <;> (try split at h) <;> first | (cases h; rfl) | (cases h; done)
    · cases h
  · cases h

/-- What is made does not hang on the heap. -/
theorem xheap_fresh {P : Program} {ρ : Operand → Option Value} {H H' : Heap} {o : Oper} {v : Value} (h : xheap P ρ H o = some (v, H')) (ho : clOf o.op = .fresh) :
    ∃ obj, H' = H.alloc obj ∧ xheap P ρ ⟨.lf, H.next⟩ o = some (v, (⟨.lf, H.next⟩ : Heap).alloc obj) := by
  unfold xheap at h ⊢
  cases hop : o.op <;> rw [hop] at ho h <;> simp only [clOf, reduceCtorEq] at ho
  case call c =>
    cases hc : c.callee with
    | value f => rw [hc] at ho; cases ho
    | invoke a b => rw [hc] at ho; cases ho
    | builtin b => rw [hc] at ho; cases b <;> cases ho
  case alloc t =>
    simp only [xalloc] at h ⊢
    repeat' split at h
    all_goals first | (cases h; done) | (cases h; refine ⟨_, rfl, ?_⟩; simp only [*]; rfl) | (cases h; exact ⟨_, rfl, rfl⟩)
  case box t x =>
    simp only [xhBox] at h ⊢
    repeat' split at h
    all_goals first | (cases h; done) | (cases h; refine ⟨_, rfl, ?_⟩; simp only [*]; rfl) | (cases h; exact ⟨_, rfl, rfl⟩)
  case buildSlice t m parts =>
    simp only [xhBuildSlice, xbuildSlice] at h ⊢
    repeat' split at h
    all_goals first | (cases h; done) | (cases h; refine ⟨_, rfl, ?_⟩; simp only [*]; done) | (cases h; exact ⟨_, rfl, rfl⟩)
  case makeSlice t a b =>
    simp only [xhMakeSlice, xmakeSlice] at h ⊢
    repeat' split at h
    all_goals first | (cases h; done) | (cases h; refine ⟨_, rfl, ?_⟩; simp only [*]; done) | (cases h; exact ⟨_, rfl, rfl⟩)
  case makeMap t r =>
    simp only [xhMakeMap, xmakeMap] at h ⊢
    repeat' split at h
    all_goals first | (cases h; done) | (cases h; refine ⟨_, rfl, ?_⟩; simp only [*]; done) | (cases h; exact ⟨_, rfl, rfl⟩)
  case makeChan t x =>
    simp only [xhMakeChan, xmakeChan] at h ⊢
    repeat' split at h
    all_goals first | (cases h; done) | (cases h; refine ⟨_, rfl, ?_⟩; simp only [*]; done) | (cases h; exact ⟨_, rfl, rfl⟩)

theorem nm_none : NM Rec.none := ⟨fun _ _ _ _ _ _ => trivial, fun _ _ _ _ _ _ _ => trivial, fun _ _ _ => trivial, fun _ _ _ _ _ _ h => (Option.some_ne_none _ h.symm).elim, fun _ _ _ _ _ => trivial⟩

theorem OutN.mono {n m : Nat} (h : n ≤ m) : ∀ {o : Out}, OutN m o → OutN n o
  | .none, _ => trivial
  | .normal _ _ _ _, a => Nat.le_trans h a
  | .exit _ _ _ _ _, a => Nat.le_trans h a
  | .ret _ _ _ _, a => Nat.le_trans h a
  | .panic _ _ _ _ _, a => Nat.le_trans h a
theorem EndN.mono {n m : Nat} (h : n ≤ m) : ∀ {o : AEnd}, EndN m o → EndN n o
  | .none, _ => trivial
  | .ret _ _, a => Nat.le_trans h a
  | .panic _ _, a => Nat.le_trans h a

def OpN (n : Nat) : OpR → Prop
  | .none => True
  | .val _ _ H _ => n ≤ H.next
  | .panic _ H => n ≤ H.next

theorem soHeap_next {H : Heap} {x : Option (Value × Heap)} {D : Dl} {rc : RC} (h : ∀ v H', x = some (v, H') → H.next ≤ H'.next) : OpN H.next (soHeap x D rc) := by
  cases x with
  | none => trivial
  | some p => exact h p.1 p.2 rfl

section
variable {P : Program} {r : Rec} (h : NM r)
include h

theorem nm_stepOp (o : Oper) (F : Fr) (D : Dl) (H : Heap) (rc : RC) : OpN H.next (stepOp P r o F D H rc) := by
  by_cases hp : plainOp o.op = true
  · rw [stepOp_plain hp]
    refine soHeap_next fun v H' hx => ?_
    unfold xop at hx
    split at hx
    · exact xheap_next hx
    · split at hx
      · cases hx; exact Nat.le_refl _
      · exact xheap_next hx
  · unfold stepOp
    cases hop : o.op <;> rw [hop] at hp <;> first | exact absurd rfl hp | skip
    case call c =>
      show OpN H.next (soCall P r (F.ev P) c o.type D H rc)
      unfold soCall
      cases hc : c.callee with
      | value fo =>
        simp only
        unfold soValue
        split
        · split
          · unfold soEnter
            split
            · rename_i f l _
              have := h.call f l H
              cases hx : r.call f l H with
              | none => trivial
              | ret v H' => rw [hx] at this; exact this
              | panic v H' => rw [hx] at this; exact this
            · trivial
          · trivial
        · trivial
      | invoke a b => trivial
      | builtin b =>
        simp only [plainOp, hc] at hp
        cases b <;> first | exact absurd rfl hp | skip
        show OpN H.next (soRecover D H rc)
        unfold soRecover
        split <;> first | trivial | exact Nat.le_refl _
    case defer c =>
      show OpN H.next (soDefer (F.ev P) c D H rc)
      unfold soDefer
      split
      · split
        · split
          · exact Nat.le_refl _
          · trivial
        · trivial
      · trivial
    case panic x =>
      show OpN H.next (soPanic (F.ev P x) H)
      unfold soPanic
      split
      · exact Nat.le_refl _
      · trivial
    case send c x =>
      show OpN H.next (soSend (F.ev P) c x D H rc)
      unfold soSend
      split
      · split
        · rename_i hx
          unfold xsend at hx
          repeat' split at hx
          all_goals first | (cases hx; exact Nat.le_refl _) | (cases hx; done)
        · trivial
      · trivial
    case select cs bl =>
      show OpN H.next (soHeap (xselect1 P (F.ev P) H cs.toList bl) D rc)
      refine soHeap_next fun v H' hx => ?_
      unfold xselect1 at hx
      repeat' split at hx
      all_goals first | (cases hx; exact Nat.le_refl _) | (cases hx; done)

theorem nm_soNext (n : Nat) (a : Array Oper) (rest : List Oper) (dst : Option Tmp) (v : Value) (F : Fr) (D : Dl) (H : Heap) (rc : RC) : OutN H.next (soNext r n a rest dst v F D H rc) := by
  unfold soNext
  split
  · split
    · trivial
    · exact h.ops _ _ _ _ _ _ _
  · exact h.ops _ _ _ _ _ _ _

theorem nm_stepOps (n : Nat) (a : Array Oper) (l : List Oper) (F : Fr) (D : Dl) (H : Heap) (rc : RC) : OutN H.next (stepOps P r n a l F D H rc) := by
  unfold stepOps
  split
  · exact Nat.le_refl _
  · rename_i o rest
    split
    · have hop := nm_stepOp (P := P) h o F D H rc
      unfold soThen
      split
      · rename_i hx
        rw [hx] at hop
        exact (nm_soNext h _ _ _ _ _ _ _ _ _).mono hop
      · rename_i hx; rw [hx] at hop; exact hop
      · trivial
    · exact nm_soNext h _ _ _ _ _ _ _ _ _
    · trivial

omit h in
theorem nm_dStep (n : Nat) (a : Array Oper) (i m : Nat) (o : Oper) (F : Fr) (H : Heap) (As : List Fresh) (next : Nat) (Es : List Was) (Rs : List Looked) (s : DS) (hd : dStep P r n a i m o F H As next Es Rs = some s) : next ≤ s.next := by
  have pur : ∀ {x : Option Value} {s : DS}, dPure n o x F H As next Es Rs = some s → next ≤ s.next := by
    intro x s h
    unfold dPure at h
    repeat' split at h
    all_goals first | (cases h; exact Nat.le_refl _) | (cases h; done)
  have red : ∀ {s : DS}, dRead P n i m o F H As next Es Rs = some s → next ≤ s.next := by
    intro s h
    unfold dRead at h
    repeat' split at h
    all_goals first | (cases h; exact Nat.le_refl _) | (cases h; done)
  have eff : ∀ {x : Heap → Option (Value × Heap)} {s : DS}, dEffect P n i m o x F H As next Es Rs = some s → next ≤ s.next := by
    intro x s h
    unfold dEffect at h
    repeat' split at h
    all_goals first | (cases h; apply Nat.le_of_ble_eq_true; assumption) | (cases h; done)
  unfold dStep at hd
  split at hd
  · unfold dOp at hd
    split at hd
    · exact pur hd
    · exact red hd
    · split at hd
      · exact pur hd
      · exact red hd
    · unfold dFresh at hd
      repeat' split at hd
      all_goals first | (cases hd; exact Nat.le_succ _) | (cases hd; done)
    · exact eff hd
    · split at hd
      · exact eff hd
      · cases hd
    · cases hd
  · exact pur hd
  · cases hd

omit h in
theorem nm_dOps (n : Nat) (a : Array Oper) : ∀ (l : List Oper) (ms : List Nat) (i : Nat) (d s : DS), dOps P r n a l ms i d = some s → d.next ≤ s.next := by
  intro l
  induction l with
  | nil => intro ms i d s hd; cases ms <;> (simp only [dOps, Option.some.injEq] at hd; subst hd; exact Nat.le_refl _)
  | cons o l ih =>
    intro ms i d s hd
    cases ms with
    | nil => cases hd
    | cons m ms =>
      simp only [dOps] at hd
      split at hd
      · rename_i d' hd'
        exact Nat.le_trans (nm_dStep _ _ _ _ _ _ _ _ _ _ _ _ hd') (ih _ _ _ _ hd)
      · cases hd

omit h in
theorem chOp_next {F : Fr} {H H' : Heap} {o : Oper} {v : Value} (hx : chOp P F H o = some (v, H')) : H.next ≤ H'.next := by
  unfold chOp at hx
  split at hx
  · split at hx
    · cases hx; exact Nat.le_refl _
    · cases hx
  · exact xheap_next hx
omit h in
theorem nm_chOps {n : Nat} {a : Array Oper} : ∀ (L : List Nat) {F F' : Fr} {H H' : Heap} (_ : Nat), chOps P n a L F H = some (F', H') → H.next ≤ H'.next
  | [], F, F', H, H', _, hc => by simp only [chOps, Option.some.injEq, Prod.mk.injEq] at hc; rw [hc.2]; exact Nat.le_refl _
  | i :: L, F, F', H, H', x, hc => by
    simp only [chOps] at hc
    split at hc
    · split at hc
      · rename_i hx
        split at hc
        · exact Nat.le_trans (chOp_next hx) (nm_chOps L x hc)
        · cases hc
      · cases hc
    · cases hc

theorem nm_stepCode (n : Nat) (c : Code) (F : Fr) (D : Dl) (H : Heap) (rc : RC) : OutN H.next (stepCode P r n c F D H rc) := by
  have seq : ∀ {x : Out} {b : Code}, OutN H.next x → OutN H.next (scSeq r n b x) := by
    intro x b hx
    cases x with
    | normal F' D' H' rc' => exact (h.code _ _ _ _ _ _).mono hx
    | _ => exact hx
  unfold stepCode
  cases c with
  | region id ops draw =>
    cases draw with
    | false => exact h.ops _ _ _ _ _ _ _
    | true =>
      show OutN H.next (stepDraw P r n ops F D H rc)
      unfold stepDraw
      split
      · split
        · split
          · rename_i hc; exact nm_chOps _ 0 hc
          · trivial
        · split
          · rename_i s hs
            exact nm_dOps _ _ _ _ _ _ _ hs
          · trivial
      · trivial
  | seq a b => exact seq (h.code _ _ _ _ _ _)
  | loop b => exact seq (h.code _ _ _ _ _ _)
  | cond c a b =>
    simp only [codeFn, scCond]
    split
    · exact h.code _ _ _ _ _ _
    · exact h.code _ _ _ _ _ _
    · trivial
  | block id b =>
    have := h.code n b F D H rc
    simp only [codeFn]
    unfold scBlock
    split
    · rename_i hx; rw [hx] at this; split <;> exact this
    · rename_i hx; rw [hx] at this; exact this
    · rename_i hx; rw [hx] at this; exact this
    · rename_i hx; rw [hx] at this; exact this
    · trivial
  | skip => exact Nat.le_refl _
  | label l => exact Nat.le_refl _
  | exit id => exact Nat.le_refl _
  | ret => exact Nat.le_refl _
  | _ => trivial

theorem nm_scLeave (fn : Func) {n : Nat} {x : Out} (hx : OutN n x) : EndN n (scLeave r fn x) := by
  cases x with
  | normal F' D' H' rc' => exact (h.defers _ _ _ _ _).mono hx
  | ret F' D' H' rc' => exact (h.defers _ _ _ _ _).mono hx
  | panic v F' D' H' rc' => exact (h.defers _ _ _ _ _).mono hx
  | _ => trivial

theorem nm_stepCall {hk : FuncId → Option (List Value → Heap → AEnd)} (hn : HkN hk) (f : FuncId) (args : List Value) (H : Heap) : EndN H.next (stepCall P r hk f args H) := by
  unfold stepCall
  split
  · rename_i g hg; exact hn _ _ _ _ hg
  · split
    · split
      · exact nm_scLeave h _ (h.code _ _ _ _ _ _)
      · trivial
    · trivial

theorem nm_stepDcall (f : FuncId) (args : List Value) (H : Heap) (m : RC) (H' : Heap) (m' : RC) (hd : stepDcall P r f args H m = some (H', m')) : H.next ≤ H'.next := by
  unfold stepDcall at hd
  split at hd
  · cases hd
  · split at hd
    · split at hd
      · rename_i fn c _ _ _ _ _
        have := h.code fn.ntmps c (putArgs 0 args .lf) [] H m
        unfold scDone at hd
        split at hd
        · rename_i hx
          rw [hx] at this
          obtain ⟨rfl, _⟩ := scKeep_spec hd
          exact this
        · rename_i hx
          rw [hx] at this
          obtain ⟨rfl, _⟩ := scKeep_spec hd
          exact this
        · cases hd
      · cases hd
    · cases hd

theorem nm_stepDefers (fn : Func) (F : Fr) (D : Dl) (m : RC) (H : Heap) : EndN H.next (stepDefers P r fn F D m H) := by
  unfold stepDefers
  split
  · split
    · split
      · exact Nat.le_refl _
      · trivial
    · exact Nat.le_refl _
    · trivial
  · split
    · rename_i hd
      exact (h.defers _ _ _ _ _).mono (h.dcall _ _ _ _ _ _ hd)
    · trivial
end

theorem nm_run (P : Program) {hk : FuncId → Option (List Value → Heap → AEnd)} (hn : HkN hk) (k : Nat) : NM (run P hk k) := by
  induction k with
  | zero => exact nm_none
  | succ k ih =>
    exact {
      code := fun n c F D H rc => nm_stepCode ih n c F D H rc
      ops := fun n a l F D H rc => nm_stepOps ih n a l F D H rc
      call := fun f args H => nm_stepCall ih hn f args H
      dcall := fun f args H m H' m' hd => nm_stepDcall ih f args H m H' m' hd
      defers := fun fn F D m H => nm_stepDefers ih fn F D m H }

/- ## as good as in a row -/
def isLk : Cl → Bool
  | .read => true
  | .conv => true
  | _ => false
def isEf : Cl → Bool
  | .effect => true
  | .call => true
  | _ => false
def isFr : Cl → Bool
  | .fresh => true
  | _ => false
/-- Must c wait for e? -/
def waits (e c : Cl) : Bool := ((isFr e || isEf e) && (isLk c || isEf c)) || (isLk e && isEf c)
def okOp (o : Oper) : Bool := match o.op with
  | .slice _ _ _ _ _ => false
  | op => match clOf op with
    | .other => false
    | _ => true
def serialAt (c : Cl) (m : Nat) : List (Nat × Cl) → Bool
  | [] => true
  | (j, e) :: l => (!waits e c || bit m j) && serialAt c m l
def serialL : List Oper → List Nat → Nat → List (Nat × Cl) → Bool
  | [], _, _, _ => true
  | o :: l, m :: ms, i, acc => okOp o && serialAt (clOf o.op) m acc && serialL l ms (i + 1) ((i, clOf o.op) :: acc)
  | _ :: _, [], _, _ => false
def serialB (a : Array Oper) : Bool := serialL a.toList (befores a) 0 []

/-- .. and of what has been looked at, f may be looked at again later. -/
def serialAtF (c : Cl) (m : Nat) (f g : Nat → Bool) : List (Nat × Cl) → Bool
  | [] => true
  | (j, e) :: l => (!waits e c || bit m j || (isLk e && f j) || (isLk c && isEf e && g j)) && serialAtF c m f g l
theorem serialAtF_spec {c : Cl} {m : Nat} {f g : Nat → Bool} : ∀ {acc : List (Nat × Cl)}, serialAtF c m f g acc = true → ∀ p ∈ acc, waits p.2 c = true → bit m p.1 = true ∨ (isLk p.2 = true ∧ f p.1 = true) ∨ ((isLk c = true ∧ isEf p.2 = true) ∧ g p.1 = true)
  | [], _, p, hp, _ => by cases hp
  | (j, e) :: l, h, p, hp, hw => by
    simp only [serialAtF, Bool.and_eq_true, Bool.or_eq_true] at h
    cases hp with
    | head => rcases h.1 with ((h1 | h1) | h1) | h1
              · have hw : waits e c = true := hw
                rw [hw] at h1; cases h1
              · exact .inl h1
              · exact .inr (.inl h1)
              · exact .inr (.inr h1)
    | tail _ hp => exact serialAtF_spec h.2 p hp hw
theorem serialAt_spec {c : Cl} {m : Nat} : ∀ {acc : List (Nat × Cl)}, serialAt c m acc = true → ∀ p ∈ acc, waits p.2 c = true → bit m p.1 = true
  | [], _, p, hp, _ => by cases hp
  | (j, e) :: l, h, p, hp, hw => by
    simp only [serialAt, Bool.and_eq_true, Bool.or_eq_true] at h
    cases hp with
    | head => rcases h.1 with h1 | h1
              · have hw : waits e c = true := hw
                rw [hw] at h1; cases h1
              · exact h1
    | tail _ hp => exact serialAt_spec h.2 p hp hw

theorem chained_all {m : Nat} : ∀ {l : List Was}, (∀ e ∈ l, bit m e.ix = true) → chained m l = true
  | [], _ => rfl
  | e :: l, h => by simp only [chained, h e (.head _)]; exact chained_all fun x hx => h x (.tail _ hx)
theorem forth_all {P : Program} {H : Heap} {m : Nat} : ∀ {l : List Looked}, (∀ e ∈ l, bit m e.ix = true) → forth P H m l = true
  | [], _ => rfl
  | e :: l, h => by simp only [forth, h e (.head _)]; exact forth_all fun x hx => h x (.tail _ hx)
theorem back_all {P : Program} {F : Fr} {o : Oper} {v : Value} {m : Nat} {As : List Fresh} {next : Nat} : ∀ {l : List Was}, (∀ e ∈ l, bit m e.ix = true) → back P F o v m As next l = true
  | [], _ => rfl
  | e :: l, h => by simp only [back, h e (.head _)]; exact back_all fun x hx => h x (.tail _ hx)
theorem covers_all {base m : Nat} : ∀ {l : List Fresh}, (∀ e ∈ l, bit m e.ix = true) → covers base m l = true
  | [], _ => rfl
  | e :: l, h => by
    simp only [covers, h e (.head _)]
    have := covers_all (base := base) fun x hx => h x (.tail _ hx)
    split <;> exact this
theorem viewT_old {t : Tr AObj} {base : Nat} {p : Nat → Bool} : ∀ {l : List Fresh}, (∀ e ∈ l, e.id < base) → viewT t base p l = t
  | [], _ => rfl
  | e :: l, h => by
    have : Nat.ble base e.id = false := by
      cases hb : Nat.ble base e.id with
      | false => rfl
      | true => have := Nat.le_of_ble_eq_true hb; have := h e (.head _); omega
    simp only [viewT, this]
    exact viewT_old fun x hx => h x (.tail _ hx)

def vw (H : Heap) (As : List Fresh) (next : Nat) : Heap := ⟨viewT H.t H.next (fun _ => true) As, next⟩

theorem soCall_D {P : Program} {r : Rec} {ρ : Operand → Option Value} {c : Call} {ty : TypeId} {D D' : Dl} {H H' : Heap} {rc rc' : RC} {v : Value} {fo : Operand} (hc : c.callee = .value fo) (h : soCall P r ρ c ty D H rc = .val v D' H' rc') :
    D' = D ∧ rc' = rc ∧ dEnd (soCall P r ρ c ty [] H .norm) = some (v, H') := by
  have e : ∀ D rc, soCall P r ρ c ty D H rc = soValue r ρ fo c.args D H rc := fun D rc => by unfold soCall; rw [hc]
  rw [e] at h
  rw [e]
  cases hf : ρ fo with
  | none => unfold soValue at h; rw [hf] at h; cases h
  | some f =>
    cases hl : xlist ρ c.args.toList with
    | none => unfold soValue at h; rw [hf] at h; simp only [hl] at h; cases h
    | some l =>
      have e2 : ∀ D rc, soValue r ρ fo c.args D H rc = soEnter r (callee f l) D H rc := fun D rc => by unfold soValue; rw [hf]; simp only [hl]
      rw [e2] at h
      rw [e2]
      cases hg : callee f l with
      | none => rw [hg] at h; cases h
      | some p =>
        obtain ⟨g, l'⟩ := p
        rw [hg] at h
        unfold soEnter at h ⊢
        simp only at h ⊢
        cases hx : r.call g l' H with
        | none => rw [hx] at h; cases h
        | ret u H1 => rw [hx] at h; cases h; exact ⟨rfl, rfl, rfl⟩
        | panic u H1 => rw [hx] at h; cases h

theorem plain_of {op : Op} (h : clOf op ≠ .other) (h' : clOf op ≠ .call) : plainOp op = true := by
  cases op <;> first | rfl | (simp only [clOf, ne_eq, not_true_eq_false] at h; done) | skip
  rename_i c
  cases hc : c.callee with
  | value f => exact absurd (by simp only [clOf, hc]) h'
  | invoke a b => exact absurd (by simp only [clOf, hc]) h
  | builtin b => cases b <;> first | rfl | (simp only [plainOp, hc]; done) | exact absurd (by simp only [clOf, hc]) h

/-- One step. -/
theorem forth_some {P : Program} {H : Heap} {m : Nat} : ∀ {l : List Looked}, (∀ e ∈ l, bit m e.ix = true ∨ looks P (e.F.ev P) H e.o e.v = true) → forth P H m l = true
  | [], _ => rfl
  | e :: l, h => by
    have ih := forth_some fun x hx => h x (.tail _ hx)
    rcases h e (.head _) with h1 | h1
    · simp only [forth, h1]; exact ih
    · simp only [forth, h1, ih]; cases bit m e.ix <;> rfl
theorem back_some {P : Program} {F : Fr} {o : Oper} {v : Value} {m : Nat} {As : List Fresh} {next : Nat} : ∀ {l : List Was}, (∀ e ∈ l, bit m e.ix = true ∨ looks P (F.ev P) ⟨viewT e.H.t e.H.next (bit m) As, next⟩ o v = true) → back P F o v m As next l = true
  | [], _ => rfl
  | e :: l, h => by
    have ih := back_some fun x hx => h x (.tail _ hx)
    rcases h e (.head _) with h1 | h1
    · simp only [back, h1]; exact ih
    · simp only [back, h1, ih]; cases bit m e.ix <;> rfl
theorem serialAtF_of {c : Cl} {m : Nat} : ∀ {acc : List (Nat × Cl)}, serialAt c m acc = true → serialAtF c m (fun _ => false) (fun _ => false) acc = true
  | [], _ => rfl
  | (j, e) :: l, h => by
    simp only [serialAt, serialAtF, Bool.and_eq_true] at h ⊢
    exact ⟨by rw [Bool.and_false, Bool.or_false, Bool.and_false, Bool.or_false]; exact h.1, serialAtF_of h.2⟩
/-- Nothing writes d or x. -/
def noW (d x : Nat) : List Oper → Bool
  | [] => true
  | o :: l => (match o.dst with
    | some e => !Nat.beq e d && !Nat.beq e x
    | none => true) && noW d x l
/-- What a load yields, and where it looked, is not written behind it. -/
def keepL : List Oper → Bool
  | [] => true
  | o :: l => (match o.dst, o.op with
    | some d, .load _ (.tmp x) => !Nat.beq d x && noW d x l
    | _, _ => true) && keepL l
/-- What is known of what has been looked at. -/
def RsOk (a : Array Oper) (F : Fr) (l : List Oper) (Rs : List Looked) : Prop :=
  ∀ q ∈ Rs, nth q.ix a.toList = some q.o ∧ ∀ d t x, q.o.dst = some d → q.o.op = .load t (.tmp x) → F.get d = some q.v ∧ q.F.get x = F.get x ∧ noW d x l = true
theorem serial_step {P : Program} {r : Rec} (hnm : NM r) {n i m : Nat} {a : Array Oper} {o : Oper} {F : Fr} {H : Heap} {As : List Fresh} {next : Nat} {Es : List Was} {Rs : List Looked} {acc : List (Nat × Cl)} {D D' : Dl} {rc rc' : RC} {v : Value} {H' : Heap}
    (hok : okOp o = true) {fl gl : Nat → Bool} (hat : serialAtF (clOf o.op) m fl gl acc = true) (hA : ∀ A ∈ As, (∃ c, (A.ix, c) ∈ acc ∧ isFr c = true) ∧ A.id < next) (hE : ∀ e ∈ Es, ∃ c, (e.ix, c) ∈ acc ∧ isEf c = true) (hR : ∀ q ∈ Rs, ∃ c, (q.ix, c) ∈ acc ∧ isLk c = true) (hnx : H.next ≤ next)
    (hd : dstOk n o.dst = true) (hg : guardB a F o.guard = some true) (hs : stepOp P r o F D (vw H As next) rc = .val v D' H' rc') (hlk : ∀ q ∈ Rs, fl q.ix = true → looks P (q.F.ev P) H' q.o q.v = true)
    (hbk : ∀ e ∈ Es, gl e.ix = true → isLk (clOf o.op) = true → looks P (F.ev P) ⟨viewT e.H.t e.H.next (bit m) As, next⟩ o v = true) :
    D' = D ∧ rc' = rc ∧ ∃ s, dStep P r n a i m o F H As next Es Rs = some s ∧ s.F = F.put o.dst v ∧ vw s.H s.As s.next = H' ∧ s.H.next ≤ s.next ∧
      (∀ A ∈ s.As, (∃ c, (A.ix, c) ∈ (i, clOf o.op) :: acc ∧ isFr c = true) ∧ A.id < s.next) ∧ (∀ e ∈ s.Es, ∃ c, (e.ix, c) ∈ (i, clOf o.op) :: acc ∧ isEf c = true) ∧ (∀ q ∈ s.Rs, ∃ c, (q.ix, c) ∈ (i, clOf o.op) :: acc ∧ isLk c = true) ∧ (s.Rs = Rs ∨ s.Rs = ⟨i, o, v, F⟩ :: Rs) := by
  have hput : dput n F o.dst v = some (F.put o.dst v) := by
    unfold dput
    cases hdst : o.dst with
    | none => rfl
    | some d =>
      rw [hdst] at hd
      simp only [dstOk] at hd
      split at hd
      · cases hd
      · rename_i hb; simp only [hb]; rfl
  have hA' : ∀ A ∈ As, (∃ c, (A.ix, c) ∈ (i, clOf o.op) :: acc ∧ isFr c = true) ∧ A.id < next := fun A hx => let ⟨⟨c, h1, h2⟩, h3⟩ := hA A hx; ⟨⟨c, .tail _ h1, h2⟩, h3⟩
  have hE' : ∀ e ∈ Es, ∃ c, (e.ix, c) ∈ (i, clOf o.op) :: acc ∧ isEf c = true := fun A hx => let ⟨c, h1, h2⟩ := hE A hx; ⟨c, .tail _ h1, h2⟩
  have hR' : ∀ q ∈ Rs, ∃ c, (q.ix, c) ∈ (i, clOf o.op) :: acc ∧ isLk c = true := fun A hx => let ⟨c, h1, h2⟩ := hR A hx; ⟨c, .tail _ h1, h2⟩
  have bA : isLk (clOf o.op) = true ∨ isEf (clOf o.op) = true → ∀ A ∈ As, bit m A.ix = true := fun hc A hx => by
    obtain ⟨⟨c, h1, h2⟩, _⟩ := hA A hx
    rcases serialAtF_spec hat _ h1 (by unfold waits; rcases hc with hc | hc <;> simp [h2, hc]) with h | ⟨h, _⟩ | ⟨⟨_, h⟩, _⟩
    · exact h
    · cases c <;> simp [isFr, isLk] at h2 h
    · cases c <;> simp [isFr, isEf] at h2 h
  have bE : isEf (clOf o.op) = true → ∀ A ∈ Es, bit m A.ix = true := fun hc A hx => by
    obtain ⟨c, h1, h2⟩ := hE A hx
    rcases serialAtF_spec hat _ h1 (by unfold waits; simp [h2, hc]) with h | ⟨h, _⟩ | ⟨⟨h, _⟩, _⟩
    · exact h
    · cases c <;> simp [isEf, isLk] at h2 h
    · cases hcc : clOf o.op <;> rw [hcc] at hc h <;> simp [isEf, isLk] at hc h
  have bL : isLk (clOf o.op) = true → ∀ A ∈ Es, bit m A.ix = true ∨ looks P (F.ev P) ⟨viewT A.H.t A.H.next (bit m) As, next⟩ o v = true := fun hc A hx => by
    obtain ⟨c, h1, h2⟩ := hE A hx
    rcases serialAtF_spec hat _ h1 (by unfold waits; simp [h2, hc]) with h | ⟨h, _⟩ | ⟨_, h⟩
    · exact .inl h
    · cases c <;> simp [isEf, isLk] at h2 h
    · exact .inr (hbk A hx h hc)
  have bR : isEf (clOf o.op) = true → forth P H' m Rs = true := fun hc => by
    refine forth_some fun q hq => ?_
    obtain ⟨c, h1, h2⟩ := hR q hq
    rcases serialAtF_spec hat _ h1 (by unfold waits; simp [h2, hc]) with h | ⟨_, h⟩ | ⟨⟨h, _⟩, _⟩
    · exact .inl h
    · exact .inr (hlk q hq h)
    · cases hcc : clOf o.op <;> rw [hcc] at hc h <;> simp [isEf, isLk] at hc h
  have hview : (∀ A ∈ As, bit m A.ix = true) → (⟨viewT H.t H.next (bit m) As, next⟩ : Heap) = vw H As next := fun hb => by
    unfold vw
    rw [viewT_congr (p := bit m) (q := fun _ => true) fun A hx => hb A hx]
  -- plain operations
  have plain : clOf o.op ≠ .call → D' = D ∧ rc' = rc ∧ xop P (F.ev P) (vw H As next) o = some (v, H') := by
    intro hcl
    have hne : clOf o.op ≠ .other := fun e => by
      unfold okOp at hok
      split at hok
      · cases hok
      · rw [e] at hok; cases hok
    rw [stepOp_plain (plain_of hne hcl)] at hs
    cases hx : xop P (F.ev P) (vw H As next) o with
    | none => rw [hx] at hs; cases hs
    | some p => obtain ⟨u, H1⟩ := p; rw [hx] at hs; cases hs; exact ⟨rfl, rfl, rfl⟩
  have effect : ∀ {x : Heap → Option (Value × Heap)}, isEf (clOf o.op) = true → x (vw H As next) = some (v, H') → next ≤ H'.next →
      ∃ s, dEffect P n i m o x F H As next Es Rs = some s ∧ s.F = F.put o.dst v ∧ vw s.H s.As s.next = H' ∧ s.H.next ≤ s.next ∧
        (∀ A ∈ s.As, (∃ c, (A.ix, c) ∈ (i, clOf o.op) :: acc ∧ isFr c = true) ∧ A.id < s.next) ∧ (∀ e ∈ s.Es, ∃ c, (e.ix, c) ∈ (i, clOf o.op) :: acc ∧ isEf c = true) ∧ (∀ q ∈ s.Rs, ∃ c, (q.ix, c) ∈ (i, clOf o.op) :: acc ∧ isLk c = true) ∧ (s.Rs = Rs ∨ s.Rs = ⟨i, o, v, F⟩ :: Rs) := by
    intro x hc hx hle
    unfold dEffect
    simp only [chained_all (bE hc), covers_all (bA (.inr hc)), hview (bA (.inr hc)), hx, bR hc, hput]
    have hb : Nat.ble next H'.next = true := Nat.ble_eq_true_of_le hle
    simp only [hb]
    refine ⟨_, rfl, rfl, ?_, Nat.le_refl _, fun A hx => ⟨(hA' A hx).1, Nat.lt_of_lt_of_le (hA' A hx).2 hle⟩, ?_, hR', .inl rfl⟩
    · unfold vw
      rw [viewT_old fun A hx => Nat.lt_of_lt_of_le (hA A hx).2 hle]
    · intro e he
      cases he with
      | head => exact ⟨_, .head _, hc⟩
      | tail _ he => exact hE' e he
  have look : isLk (clOf o.op) = true → xheap P (F.ev P) (vw H As next) o = some (v, H') → H' = vw H As next →
      ∃ s, dRead P n i m o F H As next Es Rs = some s ∧ s.F = F.put o.dst v ∧ vw s.H s.As s.next = H' ∧ s.H.next ≤ s.next ∧
        (∀ A ∈ s.As, (∃ c, (A.ix, c) ∈ (i, clOf o.op) :: acc ∧ isFr c = true) ∧ A.id < s.next) ∧ (∀ e ∈ s.Es, ∃ c, (e.ix, c) ∈ (i, clOf o.op) :: acc ∧ isEf c = true) ∧ (∀ q ∈ s.Rs, ∃ c, (q.ix, c) ∈ (i, clOf o.op) :: acc ∧ isLk c = true) ∧ (s.Rs = Rs ∨ s.Rs = ⟨i, o, v, F⟩ :: Rs) := by
    intro hc hx he
    subst he
    unfold dRead
    have hl : xlook P (F.ev P) (vw H As next) o = some v := by
      unfold xlook
      simp only [hx, Nat.beq_refl]
    simp only [hview (bA (.inl hc)), hl, back_some (bL hc), hput]
    refine ⟨_, rfl, rfl, rfl, hnx, hA', hE', ?_, .inr rfl⟩
    intro q hq
    cases hq with
    | head => exact ⟨_, .head _, hc⟩
    | tail _ hq => exact hR' q hq
  have pur : ∀ {x : Option Value}, x = some v → H' = vw H As next → ∃ s, dPure n o x F H As next Es Rs = some s ∧ s.F = F.put o.dst v ∧ vw s.H s.As s.next = H' ∧ s.H.next ≤ s.next ∧
        (∀ A ∈ s.As, (∃ c, (A.ix, c) ∈ (i, clOf o.op) :: acc ∧ isFr c = true) ∧ A.id < s.next) ∧ (∀ e ∈ s.Es, ∃ c, (e.ix, c) ∈ (i, clOf o.op) :: acc ∧ isEf c = true) ∧ (∀ q ∈ s.Rs, ∃ c, (q.ix, c) ∈ (i, clOf o.op) :: acc ∧ isLk c = true) ∧ (s.Rs = Rs ∨ s.Rs = ⟨i, o, v, F⟩ :: Rs) := by
    intro x hx he
    subst hx
    subst he
    unfold dPure
    simp only [hput]
    exact ⟨_, rfl, rfl, rfl, hnx, hA', hE', hR', .inl rfl⟩
  unfold dStep
  simp only [hg]
  unfold dOp
  cases hcl : clOf o.op with
  | other =>
    unfold okOp at hok
    split at hok
    · cases hok
    · rw [hcl] at hok; cases hok
  | pure =>
    obtain ⟨h1, h2, h3⟩ := plain (by rw [hcl]; simp)
    rw [hcl] at pur
    refine ⟨h1, h2, ?_⟩
    have : xpure P (F.ev P) o = some v ∧ H' = vw H As next := by
      unfold xop at h3
      have hmem : memOp o.op = false := by cases hop : o.op <;> rw [hop] at hcl <;> first | rfl | (simp only [clOf, reduceCtorEq] at hcl; done)
      simp only [hmem] at h3
      cases hx : xpure P (F.ev P) o with
      | some u => rw [hx] at h3; cases h3; exact ⟨rfl, rfl⟩
      | none =>
        rw [hx] at h3
        simp only at h3
        exfalso
        unfold xheap at h3
        cases hop : o.op <;> rw [hop] at hcl h3 <;> first | (simp only [clOf, reduceCtorEq] at hcl; done) | (cases h3; done) | skip
        rename_i c
        have h3 : xhCall P (F.ev P) (vw H As next) c = some (v, H') := h3
        unfold xhCall at h3
        cases hc : c.callee with
        | value f => rw [hc] at h3; cases h3
        | invoke a b => rw [hc] at h3; cases h3
        | builtin b =>
          simp only [clOf, hc] at hcl
          rw [hc] at h3
          cases b <;> first | (cases h3; done) | (cases hcl; done)
    exact pur this.1 this.2
  | read =>
    obtain ⟨h1, h2, h3⟩ := plain (by rw [hcl]; simp)
    rw [hcl] at look
    refine ⟨h1, h2, ?_⟩
    have hx : xheap P (F.ev P) (vw H As next) o = some (v, H') := by
      unfold xop at h3
      have hmem : memOp o.op = true := by
        cases hop : o.op <;> rw [hop] at hcl <;> first | rfl | (simp only [clOf, reduceCtorEq] at hcl; done) | skip
        rename_i c
        cases hc : c.callee with
        | value f => simp only [clOf, hc, reduceCtorEq] at hcl
        | invoke a b => simp only [clOf, hc, reduceCtorEq] at hcl
        | builtin b => simp only [clOf, hc] at hcl; cases b <;> cases hcl
      simpa only [hmem] using h3
    refine look rfl hx (xheap_look hx ?_)
    unfold okOp at hok
    cases hop : o.op <;> rw [hop] at hcl hok <;> first | rfl | (simp only [clOf, reduceCtorEq] at hcl; done) | (cases hok; done) | skip
    rename_i c
    cases hc : c.callee with
    | value f => simp only [clOf, hc, reduceCtorEq] at hcl
    | invoke a b => simp only [clOf, hc, reduceCtorEq] at hcl
    | builtin b => simp only [clOf, hc] at hcl; cases b <;> cases hcl
  | conv =>
    obtain ⟨h1, h2, h3⟩ := plain (by rw [hcl]; simp)
    rw [hcl] at look pur
    refine ⟨h1, h2, ?_⟩
    unfold xop at h3
    have hop' : (match o.op with | .load _ _ => true | .lookup _ _ _ _ => true | .convert _ _ _ => true | .call c => (match c.callee with | .builtin .len => true | _ => false) | _ => false) = true ∧ memOp o.op = false := by
      cases hop : o.op <;> rw [hop] at hcl <;> first | exact ⟨rfl, rfl⟩ | (simp only [clOf, reduceCtorEq] at hcl; done) | skip
      rename_i c
      refine ⟨?_, rfl⟩
      cases hc : c.callee with
      | value f => simp only [clOf, hc, reduceCtorEq] at hcl
      | invoke a b => simp only [clOf, hc, reduceCtorEq] at hcl
      | builtin b => simp only [clOf, hc] at hcl; cases b <;> first | (cases hcl; done) | (simp only [hc]; done)
    simp only [hop'.2] at h3
    cases hx : xpure P (F.ev P) o with
    | some u => rw [hx] at h3; cases h3; exact pur rfl rfl
    | none => rw [hx] at h3; exact look rfl h3 (xheap_look h3 hop'.1)
  | fresh =>
    obtain ⟨h1, h2, h3⟩ := plain (by rw [hcl]; simp)
    refine ⟨h1, h2, ?_⟩
    have hx : xheap P (F.ev P) (vw H As next) o = some (v, H') := by
      unfold xop at h3
      have hmem : memOp o.op = true := by
        cases hop : o.op <;> rw [hop] at hcl <;> first | rfl | (simp only [clOf, reduceCtorEq] at hcl; done) | skip
        rename_i c
        cases hc : c.callee with
        | value f => simp only [clOf, hc, reduceCtorEq] at hcl
        | invoke a b => simp only [clOf, hc, reduceCtorEq] at hcl
        | builtin b => simp only [clOf, hc] at hcl; cases b <;> cases hcl
      simpa only [hmem] using h3
    obtain ⟨obj, rfl, h4⟩ := xheap_fresh hx hcl
    simp only
    unfold dFresh
    have h4' : xheap P (F.ev P) ⟨.lf, next⟩ o = some (v, (⟨.lf, next⟩ : Heap).alloc obj) := h4
    simp only [h4']
    have g1 : ((⟨.lf, next⟩ : Heap).alloc obj).get next = some obj := Heap.get_alloc_same _ _
    have g2 : Nat.beq ((⟨.lf, next⟩ : Heap).alloc obj).next (next + 1) = true := Nat.beq_refl _
    simp only [g1, g2, hput]
    refine ⟨_, rfl, rfl, ?_, Nat.le_succ_of_le hnx, ?_, by rw [hcl] at hE'; exact hE', by rw [hcl] at hR'; exact hR', .inl rfl⟩
    · unfold vw Heap.alloc
      have hb : Nat.ble H.next next = true := Nat.ble_eq_true_of_le hnx
      simp only [viewT, hb]
    · intro A hx
      cases hx with
      | head => exact ⟨⟨_, .head _, rfl⟩, Nat.lt_succ_self _⟩
      | tail _ hx => rw [hcl] at hA'; exact ⟨(hA' A hx).1, Nat.lt_succ_of_lt (hA' A hx).2⟩
  | effect =>
    obtain ⟨h1, h2, h3⟩ := plain (by rw [hcl]; simp)
    rw [hcl] at effect
    refine ⟨h1, h2, ?_⟩
    have hx : xheap P (F.ev P) (vw H As next) o = some (v, H') := by
      unfold xop at h3
      split at h3
      · exact h3
      · have : xpure P (F.ev P) o = none := by
          unfold xpure
          cases hop : o.op <;> rw [hop] at hcl <;> first | rfl | (simp only [clOf, reduceCtorEq] at hcl; done) | skip
          rename_i c
          show xpCall P (F.ev P) c o.type = none
          unfold xpCall
          cases hc : c.callee with
          | value f => rfl
          | invoke a b => rfl
          | builtin b =>
            simp only [clOf, hc] at hcl
            simp only
            split
            · rename_i l _
              cases b <;> first | (cases hcl; done) | (cases l <;> rfl) | rfl
            · rfl
        rw [this] at h3
        exact h3
    exact effect (x := fun H => xheap P (F.ev P) H o) rfl hx (xheap_next hx)
  | call =>
    rw [hcl] at effect
    cases hop : o.op <;> rw [hop] at hcl <;> first | (simp only [clOf, reduceCtorEq] at hcl; done) | skip
    rename_i c
    have hc : ∃ fo, c.callee = .value fo := by
      cases hc : c.callee with
      | value f => exact ⟨f, rfl⟩
      | invoke a b => simp only [clOf, hc, reduceCtorEq] at hcl
      | builtin b => simp only [clOf, hc] at hcl; cases b <;> cases hcl
    obtain ⟨fo, hc⟩ := hc
    have hs' : soCall P r (F.ev P) c o.type D (vw H As next) rc = .val v D' H' rc' := by
      unfold stepOp at hs
      rw [hop] at hs
      exact hs
    obtain ⟨h1, h2, h3⟩ := soCall_D hc hs'
    refine ⟨h1, h2, ?_⟩
    simp only
    have hnext : next ≤ H'.next := by
      have := nm_stepOp (P := P) hnm o F D (vw H As next) rc
      rw [hs] at this
      exact this
    exact effect (x := fun H => dEnd (soCall P r (F.ev P) c o.type [] H .norm)) rfl h3 hnext

def accA : List Oper → Nat → List (Nat × Cl) → List (Nat × Cl)
  | [], _, acc => acc
  | o :: l, i, acc => accA l (i + 1) ((i, clOf o.op) :: acc)
theorem noW_cons {d x : Nat} {o : Oper} {l : List Oper} (h : noW d x (o :: l) = true) : (∀ e, o.dst = some e → e ≠ d ∧ e ≠ x) ∧ noW d x l = true := by
  simp only [noW, Bool.and_eq_true] at h
  refine ⟨fun e he => ?_, h.2⟩
  have h1 := h.1
  rw [he] at h1
  simp only [Bool.and_eq_true, Bool.not_eq_true'] at h1
  constructor
  · intro e'; subst e'; rw [Nat.beq_refl] at h1; cases h1.1
  · intro e'; subst e'; rw [Nat.beq_refl] at h1; cases h1.2
theorem Fr.put_ne {F : Fr} {dst : Option Tmp} {v : Value} {x : Nat} (h : ∀ e, dst = some e → e ≠ x) : (F.put dst v).get x = F.get x := by
  cases dst with
  | none => rfl
  | some e => exact Tr.get_set_ne _ _ (h e rfl)
theorem RsOk.old {a : Array Oper} {F : Fr} {o : Oper} {l : List Oper} {Rs : List Looked} {v : Value} (h : RsOk a F (o :: l) Rs) : RsOk a (F.put o.dst v) l Rs := fun q hq => by
  obtain ⟨h1, h2⟩ := h q hq
  refine ⟨h1, fun d t x hd ho => ?_⟩
  obtain ⟨h3, h4, h5⟩ := h2 d t x hd ho
  obtain ⟨h6, h7⟩ := noW_cons h5
  exact ⟨by rw [Fr.put_ne fun e he => (h6 e he).1, h3], by rw [Fr.put_ne fun e he => (h6 e he).2, h4], h7⟩
theorem RsOk.new {a : Array Oper} {F : Fr} {o : Oper} {l : List Oper} {Rs Rs' : List Looked} {v : Value} {i : Nat} (h : RsOk a F (o :: l) Rs) (hi : nth i a.toList = some o) (hk : keepL (o :: l) = true) (hr : Rs' = Rs ∨ Rs' = ⟨i, o, v, F⟩ :: Rs) : RsOk a (F.put o.dst v) l Rs' := by
  rcases hr with rfl | rfl
  · exact h.old
  · intro q hq
    cases hq with
    | tail _ hq => exact h.old q hq
    | head =>
      refine ⟨hi, fun d t x hd ho => ?_⟩
      have hd : o.dst = some d := hd
      have ho : o.op = .load t (.tmp x) := ho
      simp only [keepL, hd, ho, Bool.and_eq_true, Bool.not_eq_true'] at hk
      have hne : d ≠ x := fun e => by subst e; rw [Nat.beq_refl] at hk; cases hk.1.1
      rw [hd]
      exact ⟨Tr.get_set_same _ _ _, (Tr.get_set_ne _ _ hne).symm, hk.1.2⟩

theorem serial_ops {P : Program} {hk : FuncId → Option (List Value → Heap → AEnd)} (hn : HkN hk) {n : Nat} {a : Array Oper} {Kf : Nat} : ∀ (l : List Oper) (k : Nat) (ms : List Nat) (i : Nat) (F : Fr) (H : Heap) (As : List Fresh) (next : Nat) (Es : List Was) (Rs : List Looked) (acc : List (Nat × Cl)) (D : Dl) (rc : RC)
    (F' : Fr) (D' : Dl) (H' : Heap) (rc' : RC) (tl : List Oper), k ≤ Kf → a.toList.drop i = l ++ tl → keepL (l ++ tl) = true → RsOk a F (l ++ tl) Rs → serialL l ms i acc = true → (∀ A ∈ As, (∃ c, (A.ix, c) ∈ acc ∧ isFr c = true) ∧ A.id < next) → (∀ e ∈ Es, ∃ c, (e.ix, c) ∈ acc ∧ isEf c = true) → (∀ q ∈ Rs, ∃ c, (q.ix, c) ∈ acc ∧ isLk c = true) → H.next ≤ next →
    (run P hk k).ops n a l F D (vw H As next) rc = .normal F' D' H' rc' → D' = D ∧ rc' = rc ∧ ∃ s, dOps P (run P hk Kf) n a l ms i ⟨F, H, As, next, Es, Rs⟩ = some s ∧ s.F = F' ∧ vw s.H s.As s.next = H' ∧ s.H.next ≤ s.next ∧ (∀ A ∈ s.As, (∃ c, (A.ix, c) ∈ accA l i acc ∧ isFr c = true) ∧ A.id < s.next) ∧ (∀ e ∈ s.Es, ∃ c, (e.ix, c) ∈ accA l i acc ∧ isEf c = true) ∧ (∀ q ∈ s.Rs, ∃ c, (q.ix, c) ∈ accA l i acc ∧ isLk c = true) ∧ RsOk a s.F tl s.Rs := by
  intro l
  induction l with
  | nil =>
    intro k ms i F H As next Es Rs acc D rc F' D' H' rc' tl hk' hdr hkp hrs hs hA hE hR hnx hrun
    cases k with
    | zero => cases hrun
    | succ k =>
      rw [ops_succ] at hrun
      unfold stepOps at hrun
      simp only [Out.normal.injEq] at hrun
      obtain ⟨rfl, rfl, rfl, rfl⟩ := hrun
      exact ⟨rfl, rfl, _, by cases ms <;> rfl, rfl, rfl, hnx, hA, hE, hR, hrs⟩
  | cons o l ih =>
    intro k ms i F H As next Es Rs acc D rc F' D' H' rc' tl hk' hdr hkp hrs hs hA hE hR hnx hrun
    cases ms with
    | nil => cases hs
    | cons m ms =>
      simp only [serialL, Bool.and_eq_true] at hs
      obtain ⟨⟨hok, hat⟩, hrest⟩ := hs
      have hi : nth i a.toList = some o := by
        rw [nth_eq, ← List.head?_drop, hdr]; rfl
      have hdr' : a.toList.drop (i + 1) = l ++ tl := by
        rw [← List.tail_drop, hdr]; rfl
      have hkp' : keepL (l ++ tl) = true := by
        have := hkp
        rw [List.cons_append] at this
        simp only [keepL, Bool.and_eq_true] at this
        exact this.2
      cases k with
      | zero => cases hrun
      | succ k =>
        rw [ops_succ] at hrun
        unfold stepOps at hrun
        simp only at hrun
        split at hrun
        · rename_i hg
          unfold soThen at hrun
          split at hrun
          · rename_i v D1 H1 rc1 hop
            have hdst : dstOk n o.dst = true := by
              unfold soNext at hrun
              cases hdd : o.dst with
              | none => rfl
              | some d =>
                rw [hdd] at hrun
                simp only at hrun
                split at hrun
                · cases hrun
                · rename_i hb; simp only [dstOk, hb]
            have hop' : stepOp P (run P hk Kf) o F D (vw H As next) rc = .val v D1 H1 rc1 := by rw [le_stepOp (run_le P hk (by omega : k ≤ Kf)) _ _ _ _ _ (by rw [hop]; simp), hop]
            obtain ⟨rfl, rfl, s, e1, e2, e3, e4, e5, e6, e7, e8⟩ := serial_step (nm_run P hn Kf) (n := n) (i := i) (m := m) (a := a) hok (serialAtF_of hat) hA hE hR hnx hdst hg hop' (fun q _ h => by cases h) (gl := fun _ => false) (fun e _ h => by cases h)
            have hrun' : (run P hk k).ops n a l (F.put o.dst v) D1 H1 rc1 = .normal F' D' H' rc' := by
              unfold soNext at hrun
              cases hdd : o.dst with
              | none => rw [hdd] at hrun; exact hrun
              | some d =>
                rw [hdd] at hrun
                simp only at hrun
                split at hrun
                · cases hrun
                · exact hrun
            rw [← e2, ← e3] at hrun'
            have hrs' : RsOk a s.F (l ++ tl) s.Rs := by rw [e2]; exact RsOk.new hrs hi hkp e8
            obtain ⟨h1, h2, s2, h3, h4, h5⟩ := ih k ms (i + 1) s.F s.H s.As s.next s.Es s.Rs _ D1 rc1 F' D' H' rc' tl (by omega) hdr' hkp' hrs' hrest e5 e6 e7 e4 hrun'
            refine ⟨h1, h2, s2, ?_, h4, h5⟩
            simp only [dOps, e1]
            exact h3
          · cases hrun
          · cases hrun
        · rename_i hg
          have hdst : dput n F o.dst undef = some (F.put o.dst undef) ∧ (run P hk k).ops n a l (F.put o.dst undef) D (vw H As next) rc = .normal F' D' H' rc' := by
            unfold soNext at hrun
            unfold dput
            cases hdd : o.dst with
            | none => rw [hdd] at hrun; exact ⟨rfl, hrun⟩
            | some d =>
              rw [hdd] at hrun
              simp only at hrun
              split at hrun
              · cases hrun
              · rename_i hb; simp only [hb]; exact ⟨rfl, hrun⟩
          obtain ⟨h1, h2, s2, h3, h4, h5⟩ := ih k ms (i + 1) (F.put o.dst undef) H As next Es Rs ((i, clOf o.op) :: acc) D rc F' D' H' rc' tl (by omega) hdr' hkp' hrs.old hrest
            (fun A hx => let ⟨⟨c, h1, h2⟩, h3⟩ := hA A hx; ⟨⟨c, .tail _ h1, h2⟩, h3⟩) (fun A hx => let ⟨c, h1, h2⟩ := hE A hx; ⟨c, .tail _ h1, h2⟩) (fun A hx => let ⟨c, h1, h2⟩ := hR A hx; ⟨c, .tail _ h1, h2⟩) hnx hdst.2
          refine ⟨h1, h2, s2, ?_, h4, h5⟩
          have : dStep P (run P hk Kf) n a i m o F H As next Es Rs = some ⟨F.put o.dst undef, H, As, next, Es, Rs⟩ := by
            unfold dStep
            simp only [hg]
            unfold dPure
            simp only [hdst.1]
          simp only [dOps, this]
          exact h3
        · cases hrun

/-- Operations neither leave nor return. -/
def OpsOut : Out → Prop
  | .exit _ _ _ _ _ => False
  | .ret _ _ _ _ => False
  | _ => True
theorem ops_out {P : Program} {hk : FuncId → Option (List Value → Heap → AEnd)} {n : Nat} {a : Array Oper} : ∀ (l : List Oper) (k : Nat) (F : Fr) (D : Dl) (H : Heap) (rc : RC), OpsOut ((run P hk k).ops n a l F D H rc) := by
  intro l
  induction l with
  | nil => intro k F D H rc; cases k <;> trivial
  | cons o l ih =>
    intro k F D H rc
    cases k with
    | zero => trivial
    | succ k =>
      have nx : ∀ dst v F D H rc, OpsOut (soNext (run P hk k) n a l dst v F D H rc) := by
        intro dst v F D H rc
        unfold soNext
        split
        · split
          · trivial
          · exact ih _ _ _ _ _
        · exact ih _ _ _ _ _
      rw [ops_succ]
      unfold stepOps
      simp only
      split
      · unfold soThen
        split
        · exact nx _ _ _ _ _ _
        · trivial
        · trivial
      · exact nx _ _ _ _ _ _
      · trivial

section
variable {P : Program} {hk : FuncId → Option (List Value → Heap → AEnd)} {n : Nat} {Q : LPost} {K : List KI} {E : Env} {D : Dl} {M : Imm} {L : List Seg} {rc : RC}

theorem chainOf_none {a : Array Oper} (h : anySl a.toList = false) : chainOf a = none := by unfold chainOf; rw [h]
/-- A region whose order is drawn, walked in the text's order; it does not panic. -/
theorem J.draw {id : Nat} {a : Array Oper} (hn : HkN hk) (hf : P.follows .mixedOrders = true) (ho : orderly a = true) (hs : serialB a = true) (hkp : keepL a.toList = true)
    (h : J P hk n (fun E' D' M' L' rc' m => m = .ret ∧ D' = D ∧ rc' = rc ∧ J P hk n Q K E' D M' L' rc) [.ops a a.toList] E D M L rc) (hsl : anySl a.toList = false := by decide +kernel) : J P hk n Q (.code (.region id a true) :: K) E D M L rc := by
  have hch := chainOf_none hsl
  intro F H ha hs'
  obtain ⟨out, h1, h2⟩ := h F H ha hs'
  cases h1 with
  | go x y =>
    rename_i F1 D1 H1 rc1
    cases y
    obtain ⟨k, hk'⟩ := x
    obtain ⟨E', M', L', a1, a2, a3, a4, _, rfl, rfl, a5⟩ := h2
    have hrun : (run P hk k).ops n a a.toList F D1 (vw H [] H.next) rc1 = .normal F1 D1 H1 rc1 := hk'
    obtain ⟨e1, e2, s, e3, e4, e5, _⟩ := serial_ops hn (Kf := k) a.toList k (befores a) 0 F H [] H.next [] [] [] D1 rc1 F1 D1 H1 rc1 [] (Nat.le_refl _) (by simp) (by simpa using hkp) (by intro q hq; cases hq) hs (by simp) (by simp) (by simp) (Nat.le_refl _) hrun
    obtain ⟨out, b1, b2⟩ := a5 F1 H1 a1 a2
    refine ⟨out, .go ⟨k + 1, ?_⟩ b1, b2.after a3 a4⟩
    rw [code_succ]
    show stepDraw P (run P hk k) n a F D1 H rc1 = _
    unfold stepDraw
    simp only [hf, ho, hch, e3, e4]
    congr 1
  | exit x _ _ =>
    obtain ⟨k, hk'⟩ := x
    have := ops_out (P := P) (hk := hk) (n := n) (a := a) a.toList k F D H rc
    rw [hk'] at this
    exact this.elim
  | ret x =>
    obtain ⟨k, hk'⟩ := x
    have := ops_out (P := P) (hk := hk) (n := n) (a := a) a.toList k F D H rc
    rw [hk'] at this
    exact this.elim
  | panic x =>
    obtain ⟨E', M', L', a1, a2, a3, a4, hm, _⟩ := h2
    cases hm

/- ## a look that may come before an effect, or behind it -/
inductive VR : Value → Prop where
  | b {x} : VR (.bool x)
  | i {k x} : VR (.int k x)
  | s {x} : VR (.string x)
  | p {x} : VR (.pointer x)
  | sl {a l c} : VR (.slice a l c)
  | m {x} : VR (.map x)
  | a1 {a l c} : VR (.agg ⟨[.slice a l c]⟩)
  | a2 {a l c a' l' c'} : VR (.agg ⟨[.slice a l c, .slice a' l' c']⟩)
  | ii {k x l y} : VR (.agg ⟨[.int k x, .int l y]⟩)
theorem VR.refl {v : Value} (h : VR v) : veq v v = true := by cases h <;> simp [veq, veqA, veqL]
/-- What was looked at before, is found alike. -/
inductive LooksJ (T : TT) (a : Array Oper) (M : Imm) (L : List Seg) (E : Env) : List Nat → Prop where
  | nil : LooksJ T a M L E []
  | cons {i l d t x ty pos af g v p} : nth i a.toList = some ⟨some d, .load t (.tmp x), ty, pos, af, g⟩ → E.get d = some v → E.get x = some p → Ld T M L t p v → VR v → LooksJ T a M L E l → LooksJ T a M L E (i :: l)
theorem LooksJ.at {T : TT} {a : Array Oper} {M : Imm} {L : List Seg} {E : Env} {l : List Nat} (h : LooksJ T a M L E l) {i : Nat} (hi : memN i l = true) :
    ∃ d t x ty pos af g v p, nth i a.toList = some ⟨some d, .load t (.tmp x), ty, pos, af, g⟩ ∧ E.get d = some v ∧ E.get x = some p ∧ Ld T M L t p v ∧ VR v := by
  induction h with
  | nil => cases hi
  | cons h1 h2 h3 h4 h5 h6 ih =>
    simp only [memN] at hi
    split at hi
    · rename_i hb
      have := Nat.eq_of_beq_eq_true hb
      subst this
      exact ⟨_, _, _, _, _, _, _, _, _, h1, h2, h3, h4, h5⟩
    · exact ih hi
def serialS (a : Array Oper) (j : Nat) (fl : List Nat) : Bool := match a.toList.drop j, (befores a).drop j with
  | o :: l2, m :: ms => serialL (a.toList.take j) (befores a) 0 [] && okOp o && (match o.guard with | none => true | some _ => false) && serialAtF (clOf o.op) m (fun k => memN k fl) (fun _ => false) (accA (a.toList.take j) 0 []) && serialL l2 ms (j + 1) ((j, clOf o.op) :: accA (a.toList.take j) 0 [])
  | _, _ => false
theorem dOps_app {P : Program} {r : Rec} {n : Nat} {a : Array Oper} : ∀ (l1 l2 : List Oper) (ms : List Nat) (i : Nat) (s s1 : DS), dOps P r n a l1 ms i s = some s1 → dOps P r n a (l1 ++ l2) ms i s = dOps P r n a l2 (ms.drop l1.length) (i + l1.length) s1
  | [], l2, ms, i, s, s1, h => by
    have : s = s1 := by cases ms <;> (simp only [dOps, Option.some.injEq] at h; exact h)
    subst this
    rfl
  | o :: l1, l2, [], i, s, s1, h => by simp only [dOps] at h; cases h
  | o :: l1, l2, m :: ms, i, s, s1, h => by
    simp only [dOps] at h
    split at h
    · rename_i s' hs
      have := dOps_app l1 l2 ms (i + 1) s' s1 h
      simp only [List.cons_append, dOps, hs, List.length_cons, List.drop_succ_cons]
      rw [this]
      congr 1
      omega
    · cases h
/-- A row of operations that does not panic: its run. -/
theorem J.opsRun {a : Array Oper} {l : List Oper} {R : Env → Imm → List Seg → Prop} (h : J P hk n (fun E' D' M' L' rc' m => m = .ret ∧ D' = D ∧ rc' = rc ∧ R E' M' L') [.ops a l] E D M L rc) {F : Fr} {H : Heap} (ha : Agree F E) (hs : Sat M L.flatten H) :
    ∃ k F1 H1 E' M' L', (run P hk k).ops n a l F D H rc = .normal F1 D H1 rc ∧ Agree F1 E' ∧ Sat M' L'.flatten H1 ∧ MLe M M' ∧ Frm L.flatten H L'.flatten H1 ∧ R E' M' L' := by
  obtain ⟨out, h1, h2⟩ := h F H ha hs
  cases h1 with
  | go x y =>
    rename_i F1 D1 H1 rc1
    cases y
    obtain ⟨k, hk'⟩ := x
    obtain ⟨E', M', L', a1, a2, a3, a4, _, rfl, rfl, a5⟩ := h2
    exact ⟨k, F1, H1, E', M', L', hk', a1, a2, a3, a4, a5⟩
  | exit x _ _ =>
    obtain ⟨k, hk'⟩ := x
    have := ops_out (P := P) (hk := hk) (n := n) (a := a) l k F D H rc
    rw [hk'] at this
    exact this.elim
  | ret x =>
    obtain ⟨k, hk'⟩ := x
    have := ops_out (P := P) (hk := hk) (n := n) (a := a) l k F D H rc
    rw [hk'] at this
    exact this.elim
  | panic x =>
    obtain ⟨E', M', L', a1, a2, a3, a4, hm, _⟩ := h2
    cases hm
theorem one_run {a : Array Oper} {o : Oper} (hg : o.guard = none) {F F1 : Fr} {H H1 : Heap} {k : Nat} (h : (run P hk k).ops n a [o] F D H rc = .normal F1 D H1 rc) :
    ∃ v D' rc', stepOp P (run P hk k) o F D H rc = .val v D' H1 rc' ∧ F1 = F.put o.dst v ∧ dstOk n o.dst = true := by
  cases k with
  | zero => cases h
  | succ k =>
    rw [ops_succ] at h
    unfold stepOps at h
    have hgb : guardB a F o.guard = some true := by rw [hg]; rfl
    simp only [hgb] at h
    unfold soThen at h
    split at h
    · rename_i v D1 H2 rc1 hop
      refine ⟨v, D1, rc1, ?_⟩
      have hop' : stepOp P (run P hk (k + 1)) o F D H rc = .val v D1 H2 rc1 := by rw [le_stepOp (run_le P hk (by omega : k ≤ k + 1)) _ _ _ _ _ (by rw [hop]; simp), hop]
      unfold soNext at h
      cases hdd : o.dst with
      | none =>
        rw [hdd] at h
        simp only at h
        cases k with
        | zero => cases h
        | succ k =>
          rw [ops_succ] at h
          unfold stepOps at h
          simp only [Out.normal.injEq] at h
          obtain ⟨rfl, rfl, rfl, rfl⟩ := h
          exact ⟨hop', rfl, rfl⟩
      | some d =>
        rw [hdd] at h
        simp only at h
        split at h
        · cases h
        · rename_i hb
          cases k with
          | zero => cases h
          | succ k =>
            rw [ops_succ] at h
            unfold stepOps at h
            simp only [Out.normal.injEq] at h
            obtain ⟨rfl, rfl, rfl, rfl⟩ := h
            exact ⟨hop', rfl, by simp only [dstOk, hb]⟩
    · cases h
    · cases h
theorem looks_load {T : TT} (hT : TOk P T) {M : Imm} {L : List Seg} {H : Heap} (hs : Sat M L.flatten H) {ρ : Operand → Option Value} {d t x ty pos af g v p} (hx : ρ (.tmp x) = some p) (h : Ld T M L t p v) (hv : VR v) : looks P ρ H ⟨some d, .load t (.tmp x), ty, pos, af, g⟩ v = true := by
  unfold looks xlook
  have : xheap P ρ H ⟨some d, .load t (.tmp x), ty, pos, af, g⟩ = some (v, H) := by
    show xhLoad P ρ H t (.tmp x) = _
    unfold xhLoad
    rw [hx]
    simp only [h.ok hT hs]
  rw [this]
  simp only [Nat.beq_refl, hv.refl]
/-- .. of which one effect may come before or behind looks. -/
theorem J.drawS {T : TT} (hT : TOk P T) (j : Nat) (fl : List Nat) {id : Nat} {a : Array Oper} (hn : HkN hk) (hf : P.follows .mixedOrders = true) (ho : orderly a = true) (hs : serialS a j fl = true) (hkp : keepL a.toList = true) {l1 lo l2 : List Oper}
    (e1 : a.toList.take j = l1) (e2 : (a.toList.drop j).take 1 = lo) (e3 : a.toList.drop (j + 1) = l2)
    (h : J P hk n (fun E' D' M' L' rc' m => m = .ret ∧ D' = D ∧ rc' = rc ∧ J P hk n (fun E' D' M' L' rc' m => m = .ret ∧ D' = D ∧ rc' = rc ∧ LooksJ T a M' L' E' fl ∧ J P hk n (fun E' D' M' L' rc' m => m = .ret ∧ D' = D ∧ rc' = rc ∧ J P hk n Q K E' D M' L' rc)
      [.ops a l2] E' D M' L' rc) [.ops a lo] E' D M' L' rc) [.ops a l1] E D M L rc) (hsl : anySl a.toList = false := by decide +kernel) : J P hk n Q (.code (.region id a true) :: K) E D M L rc := by
  have hch := chainOf_none hsl
  subst e1
  intro F H ha hs0
  unfold serialS at hs
  cases hdo : a.toList.drop j with
  | nil => rw [hdo] at hs; cases hs
  | cons o l2' =>
    rw [hdo] at hs e2
    cases hdm : (befores a).drop j with
    | nil => rw [hdm] at hs; cases hs
    | cons m ms =>
      rw [hdm] at hs
      simp only [Bool.and_eq_true] at hs
      obtain ⟨⟨⟨⟨hs1, hok⟩, hgd⟩, hat⟩, hs2⟩ := hs
      have hgd : o.guard = none := by cases hg : o.guard with
        | none => rfl
        | some _ => rw [hg] at hgd; cases hgd
      have e2 : lo = [o] := by rw [← e2]; rfl
      subst e2
      have hl2 : l2' = l2 := by rw [← e3, ← List.tail_drop, hdo]; rfl
      subst hl2
      have hjl : j < a.toList.length := by
        rcases Nat.lt_or_ge j a.toList.length with h | h
        · exact h
        · rw [List.drop_eq_nil_of_le h] at hdo; cases hdo
      have hlen : (a.toList.take j).length = j := by rw [List.length_take]; omega
      have hall : a.toList.take j ++ o :: l2' = a.toList := by rw [← hdo, List.take_append_drop]
      obtain ⟨k1, F1, H1, E1, M1, L1, r1, a1, a2, a3, a4, h⟩ := J.opsRun (R := fun E' M' L' => J P hk n (fun E' D' M' L' rc' m => m = .ret ∧ D' = D ∧ rc' = rc ∧ LooksJ T a M' L' E' fl ∧ J P hk n (fun E' D' M' L' rc' m => m = .ret ∧ D' = D ∧ rc' = rc ∧ J P hk n Q K E' D M' L' rc)
        [.ops a l2'] E' D M' L' rc) [.ops a [o]] E' D M' L' rc) h ha hs0
      obtain ⟨k2, F2, H2, E2, M2, L2, r2, b1, b2, b3, b4, hlk, h⟩ := J.opsRun (R := fun E' M' L' => LooksJ T a M' L' E' fl ∧ J P hk n (fun E' D' M' L' rc' m => m = .ret ∧ D' = D ∧ rc' = rc ∧ J P hk n Q K E' D M' L' rc) [.ops a l2'] E' D M' L' rc) h a1 a2
      obtain ⟨k3, F3, H3, E3, M3, L3, r3, c1, c2, c3, c4, h⟩ := J.opsRun (R := fun E' M' L' => J P hk n Q K E' D M' L' rc) h b1 b2
      obtain ⟨out, d1, d2⟩ := h F3 H3 c1 c2
      have kp : keepL (a.toList.take j ++ o :: l2') = true := by rw [hall]; exact hkp
      have kp2 : ∀ {l l' : List Oper}, keepL (l ++ l') = true → keepL l' = true := by
        intro l l' h
        induction l with
        | nil => exact h
        | cons x l ih => rw [List.cons_append] at h; simp only [keepL, Bool.and_eq_true] at h; exact ih h.2
      obtain ⟨v, D', rc', q1, q2, q3⟩ := one_run hgd r2
      -- one fuel for all
      let kk := k1 + k2 + k3
      obtain ⟨_, _, s1, u1, u2, u3, u4, u5, u6, u7, u8⟩ := serial_ops hn (Kf := kk) (a.toList.take j) k1 (befores a) 0 F H [] H.next [] [] [] D rc F1 D H1 rc (o :: l2') (by omega) (by rw [List.drop_zero, hall]) kp (by intro q hq; cases hq) hs1 (by simp) (by simp) (by simp) (Nat.le_refl _) r1
      have q1' : stepOp P (run P hk kk) o s1.F D (vw s1.H s1.As s1.next) rc = .val v D' H2 rc' := by
        rw [u2, u3, le_stepOp (run_le P hk (by omega : k2 ≤ kk)) _ _ _ _ _ (by rw [q1]; simp), q1]
      obtain ⟨rfl, rfl, s2, w1, w2, w3, w4, w5, w6, w7, w8⟩ := serial_step (nm_run P hn kk) (n := n) (i := j) (m := m) (a := a) (fl := fun k => memN k fl) (gl := fun _ => false) hok hat u5 u6 u7 u4 q3 (by rw [hgd]; rfl) q1' (by
        intro q hq hfq
        obtain ⟨d, t, x, ty, pos, af, g, v0, p0, z1, z2, z3, z4, z5⟩ := hlk.at hfq
        obtain ⟨y1, y2⟩ := u8 q hq
        rw [z1] at y1
        have y1 := (Option.some.inj y1).symm
        obtain ⟨y3, y4, y5⟩ := y2 d t x (by rw [y1]) (by rw [y1])
        obtain ⟨y6, _⟩ := noW_cons y5
        have g1 := b1 d v0 z2
        have g2 := b1 x p0 z3
        rw [q2, ← u2, Fr.put_ne fun e he => (y6 e he).1, y3] at g1
        rw [q2, ← u2, Fr.put_ne fun e he => (y6 e he).2, ← y4] at g2
        cases g1
        rw [y1]
        exact looks_load hT b2 (ρ := q.F.ev P) (by exact g2) z4 z5) (fun e _ h => by cases h)
      have w2' : s2.F = F2 := by rw [w2, q2, u2]
      have r3' : (run P hk k3).ops n a l2' s2.F D' (vw s2.H s2.As s2.next) rc' = .normal F3 D' H3 rc' := by rw [w2', w3]; exact r3
      have hrs2 : RsOk a s2.F (l2' ++ []) s2.Rs := by
        rw [w2, List.append_nil]
        exact RsOk.new u8 (by rw [nth_eq, ← List.head?_drop, hdo]; rfl) (kp2 kp) w8
      obtain ⟨_, _, s3, x1, x2, x3, _⟩ := serial_ops hn (Kf := kk) l2' k3 ms (j + 1) s2.F s2.H s2.As s2.next s2.Es s2.Rs _ D' rc' F3 D' H3 rc' [] (by omega) (by rw [List.append_nil]; exact e3) (by rw [List.append_nil]; exact kp2 (l := a.toList.take j ++ [o]) (by simpa using kp)) hrs2 hs2 w5 w6 w7 w4 r3'
      refine ⟨out, .go ⟨kk + 1, ?_⟩ d1, d2.after ((a3.trans b3).trans c3) ((a4.trans b4).trans c4)⟩
      rw [code_succ]
      show stepDraw P (run P hk kk) n a F D' H rc' = _
      unfold stepDraw
      have hdd : dOps P (run P hk kk) n a a.toList (befores a) 0 ⟨F, H, [], H.next, [], []⟩ = some s3 := by
        rw [← hall, dOps_app _ _ _ _ _ _ u1, hlen, hdm, Nat.zero_add]
        simp only [dOps]
        rw [w1]
        exact x1
      simp only [hf, ho, hch, hdd, x2]
      congr 1
theorem J.dropHd {s : Seg} (h : J P hk n Q K E D M L rc) : J P hk n Q K E D M (s :: L) rc := h.drop (by simp)
/-- Picks out some groups, in some order (each number counts in what is left), and drops the rest. -/
def pickN : Nat → List Seg → Option (Seg × List Seg)
  | _, [] => none
  | 0, s :: L => some (s, L)
  | i + 1, x :: L => (pickN i L).map fun p => (p.1, x :: p.2)
def selR : List Nat → List Seg → Option (List Seg × List Seg)
  | [], L => some ([], L)
  | i :: is, L => (pickN i L).bind fun p => (selR is p.2).map fun q => (p.1 :: q.1, q.2)
theorem pickN_perm : ∀ {i : Nat} {L R : List Seg} {s : Seg}, pickN i L = some (s, R) → L.Perm (s :: R)
  | _, [], _, _, h => by cases (show pickN _ [] = none from by unfold pickN; rfl) ▸ h
  | 0, x :: L, R, s, h => by cases h; exact List.Perm.refl _
  | i + 1, x :: L, R, s, h => by
    unfold pickN at h
    cases hp : pickN i L with
    | none => rw [hp] at h; cases h
    | some p =>
      obtain ⟨s', R'⟩ := p
      rw [hp] at h
      cases h
      exact ((pickN_perm hp).cons x).trans (List.Perm.swap _ _ _)
theorem selR_perm : ∀ {is : List Nat} {L L' R : List Seg}, selR is L = some (L', R) → L.Perm (L' ++ R)
  | [], L, L', R, h => by cases h; exact List.Perm.refl _
  | i :: is, L, L', R, h => by
    unfold selR at h
    cases hp : pickN i L with
    | none => rw [hp] at h; cases h
    | some p =>
      obtain ⟨s', R'⟩ := p
      rw [hp] at h
      simp only [Option.bind_some] at h
      cases hq : selR is R' with
      | none => rw [hq] at h; cases h
      | some q =>
        obtain ⟨q1, q2⟩ := q
        rw [hq] at h
        cases h
        exact (pickN_perm hp).trans ((selR_perm hq).cons s')
theorem J.sel {L' R : List Seg} (is : List Nat) (hs : selR is L = some (L', R)) (h : J P hk n Q K E D M L' rc) : J P hk n Q K E D M L rc := by
  have hp := (selR_perm hs).flatten
  rw [List.flatten_append] at hp
  exact J.perm (L' := L' ++ R) (by rw [List.flatten_append]; exact hp) (h.drop (by rw [List.flatten_append]; exact List.sublist_append_left _ _))
end
end
end Go.Proofs.YtibeinbfhhoeiaaGreatDoor.Ab

namespace Go.Proofs.YtibeinbfhhoeiaaGreatDoor.Ab
open Go
noncomputable section
section
variable {P : Program} {hk : FuncId → Option (List Value → Heap → AEnd)} {n : Nat} {Q : LPost} {K : List KI} {E : Env} {D : Dl} {M : Imm} {L : List Seg} {rc : RC}
def noFr : List Oper → Bool
  | [] => true
  | o :: l => !isFr (clOf o.op) && noFr l
theorem noFr_acc : ∀ (l : List Oper) (i : Nat) (acc : List (Nat × Cl)), noFr l = true → (∀ p ∈ acc, isFr p.2 = false) → ∀ p ∈ accA l i acc, isFr p.2 = false
  | [], _, _, _, h => h
  | o :: l, i, acc, hn, h => by
    simp only [noFr, Bool.and_eq_true, Bool.not_eq_true'] at hn
    exact noFr_acc l (i + 1) _ hn.2 (by
      intro p hp
      cases hp with
      | head => exact hn.1
      | tail _ hp => exact h p hp)
theorem accA_lt : ∀ (l : List Oper) (i : Nat) (acc : List (Nat × Cl)), (∀ p ∈ acc, p.1 < i) → ∀ p ∈ accA l i acc, p.1 < i + l.length
  | [], _, _, h => h
  | o :: l, i, acc, h => fun p hp => by
    have := accA_lt l (i + 1) ((i, clOf o.op) :: acc) (by
      intro p hp
      cases hp with
      | head => exact Nat.lt_succ_self _
      | tail _ hp => exact Nat.lt_succ_of_lt (h p hp)) p hp
    rw [List.length_cons]
    omega
theorem dPure_es {n : Nat} {o : Oper} {x : Option Value} {F : Fr} {H : Heap} {As : List Fresh} {next : Nat} {Es : List Was} {Rs : List Looked} {s : DS} (h : dPure n o x F H As next Es Rs = some s) : s.Es = Es := by
  unfold dPure at h
  split at h
  · split at h
    · cases h; rfl
    · cases h
  · cases h
theorem dRead_es {P : Program} {n i m : Nat} {o : Oper} {F : Fr} {H : Heap} {As : List Fresh} {next : Nat} {Es : List Was} {Rs : List Looked} {s : DS} (h : dRead P n i m o F H As next Es Rs = some s) : s.Es = Es := by
  unfold dRead at h
  split at h
  · split at h
    · split at h
      · cases h; rfl
      · cases h
    · cases h
  · cases h
theorem dFresh_es {P : Program} {n i : Nat} {o : Oper} {F : Fr} {H : Heap} {As : List Fresh} {next : Nat} {Es : List Was} {Rs : List Looked} {s : DS} (h : dFresh P n i o F H As next Es Rs = some s) : s.Es = Es := by
  unfold dFresh at h
  split at h
  · split at h
    · cases h; rfl
    · cases h
  · cases h
theorem dEffect_es {P : Program} {n i m : Nat} {o : Oper} {x : Heap → Option (Value × Heap)} {F : Fr} {H : Heap} {As : List Fresh} {next : Nat} {Es : List Was} {Rs : List Looked} {s : DS} (h : dEffect P n i m o x F H As next Es Rs = some s) : s.Es = ⟨i, H⟩ :: Es := by
  unfold dEffect at h
  split at h
  · split at h
    · split at h
      · cases h; rfl
      · cases h
    · cases h
  · cases h
theorem dStep_es {P : Program} {r : Rec} {n : Nat} {a : Array Oper} {i m : Nat} {o : Oper} {F : Fr} {H : Heap} {As : List Fresh} {next : Nat} {Es : List Was} {Rs : List Looked} {s : DS} (h : dStep P r n a i m o F H As next Es Rs = some s) : s.Es = Es ∨ s.Es = ⟨i, H⟩ :: Es := by
  unfold dStep at h
  split at h
  · unfold dOp at h
    split at h
    · exact .inl (dPure_es h)
    · exact .inl (dRead_es h)
    · split at h
      · exact .inl (dPure_es h)
      · exact .inl (dRead_es h)
    · exact .inl (dFresh_es h)
    · exact .inr (dEffect_es h)
    · split at h
      · exact .inr (dEffect_es h)
      · cases h
    · cases h
  · exact .inl (dPure_es h)
  · cases h
def loadOf (o : Oper) : Bool := match o.dst, o.op with
  | some d, .load _ (.tmp x) => !Nat.beq d x
  | _, _ => false
theorem loadOf_spec {o : Oper} (h : loadOf o = true) : ∃ d t x, o.dst = some d ∧ o.op = .load t (.tmp x) ∧ d ≠ x := by
  unfold loadOf at h
  split at h
  · rename_i d t x hd ho
    refine ⟨d, t, x, hd, ho, fun e => ?_⟩
    subst e
    rw [Nat.beq_refl] at h
    cases h
  · cases h
def serialT (a : Array Oper) (j : Nat) : Bool := match a.toList.drop j, (befores a).drop j with
  | o :: o3 :: l2, m :: m3 :: ms => noFr (a.toList.take j) && !isFr (clOf o.op) && serialL (a.toList.take j) (befores a) 0 [] && okOp o && (match o.guard with | none => true | some _ => false) && serialAt (clOf o.op) m (accA (a.toList.take j) 0 []) &&
      okOp o3 && loadOf o3 && (match o3.guard with | none => true | some _ => false) && serialAtF (clOf o3.op) m3 (fun _ => false) (fun k => Nat.beq k j) ((j, clOf o.op) :: accA (a.toList.take j) 0 []) &&
      serialL l2 ms (j + 1 + 1) ((j + 1, clOf o3.op) :: (j, clOf o.op) :: accA (a.toList.take j) 0 [])
  | _, _ => false

theorem xload_next {P : Program} {t : Tr AObj} {n1 n2 : Nat} {ty : TypeId} {x : Value} : xload P ⟨t, n1⟩ ty x = xload P ⟨t, n2⟩ ty x := rfl

theorem J.drawL {T : TT} (hT : TOk P T) (j : Nat) {id : Nat} {a : Array Oper} (hn : HkN hk) (hf : P.follows .mixedOrders = true) (ho : orderly a = true) (hs : serialT a j = true) (hkp : keepL a.toList = true) {l1 lo l3 l2 : List Oper}
    (e1 : a.toList.take j = l1) (e2 : (a.toList.drop j).take 1 = lo) (e3 : (a.toList.drop (j + 1)).take 1 = l3) (e4 : a.toList.drop (j + 1 + 1) = l2)
    (h : J P hk n (fun E1 D1 M1 L1 rc1 m => m = .ret ∧ D1 = D ∧ rc1 = rc ∧ J P hk n (fun E' D' M' L' rc' m => m = .ret ∧ D' = D ∧ rc' = rc ∧ J P hk n (fun E' D' M' L' rc' m => m = .ret ∧ D' = D ∧ rc' = rc ∧ LooksJ T a M1 L1 E' [j + 1] ∧ J P hk n (fun E' D' M' L' rc' m => m = .ret ∧ D' = D ∧ rc' = rc ∧ J P hk n Q K E' D M' L' rc)
      [.ops a l2] E' D M' L' rc) [.ops a l3] E' D M' L' rc) [.ops a lo] E1 D M1 L1 rc) [.ops a l1] E D M L rc) (hsl : anySl a.toList = false := by decide +kernel) : J P hk n Q (.code (.region id a true) :: K) E D M L rc := by
  have hch := chainOf_none hsl
  subst e1
  intro F H ha hs0
  unfold serialT at hs
  cases hdo : a.toList.drop j with
  | nil => rw [hdo] at hs; cases hs
  | cons o l2' =>
    cases hl2' : l2' with
    | nil => rw [hdo, hl2'] at hs; cases hs
    | cons o3 l2x =>
      rw [hdo, hl2'] at hs
      rw [hdo] at e2
      cases hdm : (befores a).drop j with
      | nil => rw [hdm] at hs; cases hs
      | cons m ms' =>
        cases hms : ms' with
        | nil => rw [hdm, hms] at hs; cases hs
        | cons m3 ms =>
          rw [hdm, hms] at hs
          simp only [Bool.and_eq_true] at hs
          obtain ⟨⟨⟨⟨⟨⟨⟨⟨⟨⟨hf1, hf2⟩, hs1⟩, hok⟩, hgd⟩, hat⟩, hok3⟩, hld⟩, hgd3⟩, hat3⟩, hs2⟩ := hs
          have hgd : o.guard = none := by cases hg : o.guard with
            | none => rfl
            | some _ => rw [hg] at hgd; cases hgd
          have hgd3 : o3.guard = none := by cases hg : o3.guard with
            | none => rfl
            | some _ => rw [hg] at hgd3; cases hgd3
          have e2 : lo = [o] := by rw [← e2]; rfl
          subst e2
          have hd1 : a.toList.drop (j + 1) = o3 :: l2x := by rw [← List.tail_drop, hdo, hl2']; rfl
          have e3 : l3 = [o3] := by rw [← e3, hd1]; rfl
          subst e3
          have hl2 : l2x = l2 := by rw [← e4, ← List.tail_drop, hd1]; rfl
          subst hl2
          have hjl : j < a.toList.length := by
            rcases Nat.lt_or_ge j a.toList.length with h | h
            · exact h
            · rw [List.drop_eq_nil_of_le h] at hdo; cases hdo
          have hlen : (a.toList.take j).length = j := by rw [List.length_take]; omega
          have hall : a.toList.take j ++ o :: o3 :: l2x = a.toList := by rw [← hl2', ← hdo, List.take_append_drop]
          obtain ⟨k1, F1, H1, E1, M1, L1, r1, a1, a2, a3, a4, h⟩ := J.opsRun (R := fun E1 M1 L1 => J P hk n (fun E' D' M' L' rc' m => m = .ret ∧ D' = D ∧ rc' = rc ∧ J P hk n (fun E' D' M' L' rc' m => m = .ret ∧ D' = D ∧ rc' = rc ∧ LooksJ T a M1 L1 E' [j + 1] ∧ J P hk n (fun E' D' M' L' rc' m => m = .ret ∧ D' = D ∧ rc' = rc ∧ J P hk n Q K E' D M' L' rc)
            [.ops a l2x] E' D M' L' rc) [.ops a [o3]] E' D M' L' rc) [.ops a [o]] E1 D M1 L1 rc) h ha hs0
          obtain ⟨k2, F2, H2, E2, M2, L2, r2, b1, b2, b3, b4, h⟩ := J.opsRun (R := fun E' M' L' => J P hk n (fun E' D' M' L' rc' m => m = .ret ∧ D' = D ∧ rc' = rc ∧ LooksJ T a M1 L1 E' [j + 1] ∧ J P hk n (fun E' D' M' L' rc' m => m = .ret ∧ D' = D ∧ rc' = rc ∧ J P hk n Q K E' D M' L' rc)
            [.ops a l2x] E' D M' L' rc) [.ops a [o3]] E' D M' L' rc) h a1 a2
          obtain ⟨k3, F3, H3, E3, M3, L3, r3, c1, c2, c3, c4, hlk, h⟩ := J.opsRun (R := fun E' M' L' => LooksJ T a M1 L1 E' [j + 1] ∧ J P hk n (fun E' D' M' L' rc' m => m = .ret ∧ D' = D ∧ rc' = rc ∧ J P hk n Q K E' D M' L' rc) [.ops a l2x] E' D M' L' rc) h b1 b2
          obtain ⟨k4, F4, H4, E4, M4, L4, r4, d1, d2, d3, d4, h⟩ := J.opsRun (R := fun E' M' L' => J P hk n Q K E' D M' L' rc) h c1 c2
          obtain ⟨out, f1, f2⟩ := h F4 H4 d1 d2
          have kp : keepL (a.toList.take j ++ o :: o3 :: l2x) = true := by rw [hall]; exact hkp
          have kp2 : ∀ {l l' : List Oper}, keepL (l ++ l') = true → keepL l' = true := by
            intro l l' h
            induction l with
            | nil => exact h
            | cons x l ih => rw [List.cons_append] at h; simp only [keepL, Bool.and_eq_true] at h; exact ih h.2
          obtain ⟨v, D', rc', q1, q2, q3⟩ := one_run hgd r2
          obtain ⟨v3, D3, rc3, p1, p2, p3⟩ := one_run hgd3 r3
          let kk := k1 + k2 + k3 + k4
          obtain ⟨_, _, s1, u1, u2, u3, u4, u5, u6, u7, u8⟩ := serial_ops hn (Kf := kk) (a.toList.take j) k1 (befores a) 0 F H [] H.next [] [] [] D rc F1 D H1 rc (o :: o3 :: l2x) (by omega) (by rw [List.drop_zero, hall]) kp (by intro q hq; cases hq) hs1 (by simp) (by simp) (by simp) (Nat.le_refl _) r1
          have hAs1 : s1.As = [] := by
            match hh : s1.As with
            | [] => rfl
            | A :: l =>
              obtain ⟨⟨cc, g1, g2⟩, _⟩ := u5 A (by rw [hh]; exact .head _)
              have := noFr_acc _ 0 [] hf1 (by simp) _ g1
              rw [this] at g2; cases g2
          have q1' : stepOp P (run P hk kk) o s1.F D (vw s1.H s1.As s1.next) rc = .val v D' H2 rc' := by
            rw [u2, u3, le_stepOp (run_le P hk (by omega : k2 ≤ kk)) _ _ _ _ _ (by rw [q1]; simp), q1]
          obtain ⟨rfl, rfl, s2, w1, w2, w3, w4, w5, w6, w7, w8⟩ := serial_step (nm_run P hn kk) (n := n) (i := j) (m := m) (a := a) (fl := fun _ => false) (gl := fun _ => false) hok (serialAtF_of hat) u5 u6 u7 u4 q3 (by rw [hgd]; rfl) q1' (fun q _ h => by cases h) (fun e _ h => by cases h)
          have hAs2 : s2.As = [] := by
            match hh : s2.As with
            | [] => rfl
            | A :: l =>
              obtain ⟨⟨cc, g1, g2⟩, _⟩ := w5 A (by rw [hh]; exact .head _)
              cases g1 with
              | head => simp only [Bool.not_eq_true'] at hf2; rw [hf2] at g2; cases g2
              | tail _ g1 =>
                have := noFr_acc _ 0 [] hf1 (by simp) _ g1
                rw [this] at g2; cases g2
          have w2' : s2.F = F2 := by rw [w2, q2, u2]
          have hEs : ∀ e ∈ s2.Es, e.ix = j → e.H.t = H1.t := by
            intro e he hj
            have hold : ∀ e ∈ s1.Es, e.ix < j := fun e he => by
              obtain ⟨cc, g1, _⟩ := u6 e he
              have := accA_lt (a.toList.take j) 0 [] (by simp) _ g1
              rw [hlen] at this
              simpa using this
            rcases dStep_es w1 with hq | hq
            · rw [hq] at he
              have := hold e he
              omega
            · rw [hq] at he
              cases he with
              | head =>
                rw [← u3, hAs1]
                rfl
              | tail _ he => have := hold e he; omega
          have hrs2 : RsOk a s2.F (o3 :: l2x) s2.Rs := by
            rw [w2]
            exact RsOk.new u8 (by rw [nth_eq, ← List.head?_drop, hdo]; rfl) (kp2 kp) w8
          have p1' : stepOp P (run P hk kk) o3 s2.F D' (vw s2.H s2.As s2.next) rc' = .val v3 D3 H3 rc3 := by
            rw [w2', w3, le_stepOp (run_le P hk (by omega : k3 ≤ kk)) _ _ _ _ _ (by rw [p1]; simp), p1]
          obtain ⟨dd, tt', xx, hdst, hop3, hne⟩ := loadOf_spec hld
          obtain ⟨rfl, rfl, s3, x1, x2, x3, x4, x5, x6, x7, x8⟩ := serial_step (nm_run P hn kk) (n := n) (i := j + 1) (m := m3) (a := a) (fl := fun _ => false) (gl := fun k => Nat.beq k j) hok3 hat3 w5 w6 w7 w4 p3 (by rw [hgd3]; rfl) p1' (fun q _ h => by cases h) (by
            intro e he hj _
            have hj := Nat.eq_of_beq_eq_true hj
            obtain ⟨d, t, x, ty, pos, af, g, v0, p0, z1, z2, z3, z4, z5⟩ := hlk.at (i := j + 1) (by simp [memN])
            have ho3 : nth (j + 1) a.toList = some o3 := by rw [nth_eq, ← List.head?_drop, hd1]; rfl
            rw [ho3] at z1
            have z1 := Option.some.inj z1
            have g1 := c1 d v0 z2
            have g2 := c1 x p0 z3
            have hdx : d ≠ x := by
              intro hx
              subst hx
              rw [z1] at hdst hop3
              simp only [Option.some.injEq] at hdst
              cases hop3
              exact hne hdst.symm
            rw [p2, z1] at g1 g2
            rw [show (F2.put (some d) v3).get d = some v3 from Tr.get_set_same _ _ _] at g1
            cases g1
            rw [show (F2.put (some d) v3).get x = F2.get x from Fr.put_ne fun e he => by cases he; exact hdx] at g2
            have hH : (⟨viewT e.H.t e.H.next (bit m3) s2.As, s2.next⟩ : Heap) = ⟨H1.t, s2.next⟩ := by rw [hAs2, ← hEs e he hj]; rfl
            rw [hH, w2', z1]
            unfold looks xlook
            have : xheap P (F2.ev P) ⟨H1.t, s2.next⟩ ⟨some d, .load t (.tmp x), ty, pos, af, g⟩ = some (v3, ⟨H1.t, s2.next⟩) := by
              show xhLoad P (F2.ev P) ⟨H1.t, s2.next⟩ t (.tmp x) = _
              unfold xhLoad
              rw [show F2.ev P (.tmp x) = some p0 from g2]
              simp only [xload_next (n2 := H1.next), z4.ok hT a2]
            rw [this]
            simp only [Nat.beq_refl, z5.refl])
          have x2' : s3.F = F3 := by rw [x2, p2, w2']
          have r4' : (run P hk k4).ops n a l2x s3.F D3 (vw s3.H s3.As s3.next) rc3 = .normal F4 D3 H4 rc3 := by rw [x2', x3]; exact r4
          have hrs3 : RsOk a s3.F (l2x ++ []) s3.Rs := by
            rw [x2, List.append_nil]
            exact RsOk.new hrs2 (by rw [nth_eq, ← List.head?_drop, hd1]; rfl) (kp2 (l := a.toList.take j ++ [o]) (by simpa using kp)) x8
          obtain ⟨_, _, s4, y1, y2, y3, _⟩ := serial_ops hn (Kf := kk) l2x k4 ms (j + 1 + 1) s3.F s3.H s3.As s3.next s3.Es s3.Rs _ D3 rc3 F4 D3 H4 rc3 [] (by omega) (by rw [List.append_nil]; exact e4) (by rw [List.append_nil]; exact kp2 (l := a.toList.take j ++ [o, o3]) (by simpa using kp)) hrs3 hs2 x5 x6 x7 x4 r4'
          refine ⟨out, .go ⟨kk + 1, ?_⟩ f1, f2.after (((a3.trans b3).trans c3).trans d3) (((a4.trans b4).trans c4).trans d4)⟩
          rw [code_succ]
          show stepDraw P (run P hk kk) n a F D3 H rc3 = _
          unfold stepDraw
          have hdd : dOps P (run P hk kk) n a a.toList (befores a) 0 ⟨F, H, [], H.next, [], []⟩ = some s4 := by
            rw [← hall, dOps_app _ _ _ _ _ _ u1, hlen, hdm, hms, Nat.zero_add]
            simp only [dOps]
            rw [w1]
            simp only
            rw [x1]
            exact y1
          simp only [hf, ho, hch, hdd, y2]
          congr 1
end
end
end Go.Proofs.YtibeinbfhhoeiaaGreatDoor.Ab

namespace Go.Proofs.YtibeinbfhhoeiaaGreatDoor.Ab
open Go
noncomputable section
section
variable {P : Program} {hk : FuncId → Option (List Value → Heap → AEnd)} {n : Nat} {Q : LPost} {K : List KI} {E : Env} {D : Dl} {M : Imm} {L : List Seg} {rc : RC}

/-- What a run of operations does not write. -/
theorem ops_noW {a : Array Oper} {d : Nat} : ∀ (l : List Oper) (k : Nat) {F F' : Fr} {D D' : Dl} {H H' : Heap} {rc rc' : RC}, (run P hk k).ops n a l F D H rc = .normal F' D' H' rc' → (∀ o ∈ l, ∀ e, o.dst = some e → e ≠ d) → F'.get d = F.get d
  | [], k, F, F', D, D', H, H', rc, rc', h, _ => by
    cases k with
    | zero => cases h
    | succ k =>
      rw [ops_succ] at h
      unfold stepOps at h
      simp only [Out.normal.injEq] at h
      rw [h.1]
  | o :: l, k, F, F', D, D', H, H', rc, rc', h, hw => by
    cases k with
    | zero => cases h
    | succ k =>
      rw [ops_succ] at h
      unfold stepOps at h
      simp only at h
      have key : ∀ {v : Value} {D1 : Dl} {H1 : Heap} {rc1 : RC}, soNext (run P hk k) n a l o.dst v F D1 H1 rc1 = .normal F' D' H' rc' → F'.get d = F.get d := by
        intro v D1 H1 rc1 h
        unfold soNext at h
        cases hd : o.dst with
        | none =>
          rw [hd] at h
          exact ops_noW l k h fun x hx => hw x (.tail _ hx)
        | some e =>
          rw [hd] at h
          simp only at h
          split at h
          · cases h
          · rw [ops_noW l k h fun x hx => hw x (.tail _ hx)]
            exact Tr.get_set_ne _ _ (hw o (.head _) e hd)
      split at h
      · unfold soThen at h
        split at h
        · exact key h
        · cases h
        · cases h
      · exact key h
      · cases h

/-- These cells hold these things. -/
def PcH (Pc : List (Nat × AObj)) (t : Tr AObj) : Prop := ∀ p ∈ Pc, t.get p.1 = some p.2
/-- What a look yields wherever these cells hold these things. -/
def LkV (P : Program) (Pc : List (Nat × AObj)) (t : TypeId) (p v : Value) : Prop := (∀ tr nx, PcH Pc tr → xload P ⟨tr, nx⟩ t p = some v) ∧ VR v
theorem viewT_get {t : Tr AObj} {base : Nat} {p : Nat → Bool} {id : Nat} : ∀ {As : List Fresh}, (∀ A ∈ As, A.id ≠ id) → (viewT t base p As).get id = t.get id
  | [], _ => rfl
  | A :: As, h => by
    have ih := viewT_get (t := t) (base := base) (p := p) fun x hx => h x (.tail _ hx)
    simp only [viewT]
    split
    · rw [Tr.get_set_ne _ _ (h A (.head _)), ih]
    · exact ih
theorem PcH.view {Pc : List (Nat × AObj)} {t : Tr AObj} {base lo : Nat} {p : Nat → Bool} {As : List Fresh} (h : PcH Pc t) (hlo : ∀ q ∈ Pc, q.1 < lo) (hA : ∀ A ∈ As, lo ≤ A.id) : PcH Pc (viewT t base p As) := fun q hq => by
  rw [viewT_get fun A hA' => by have := hA A hA'; have := hlo q hq; omega]
  exact h q hq

/-- An operation that is no effect leaves the heap's old part and the effects that were. -/
theorem dFresh_keep {i : Nat} {o : Oper} {F : Fr} {H : Heap} {As : List Fresh} {next : Nat} {Es : List Was} {Rs : List Looked} {s : DS} (h : dFresh P n i o F H As next Es Rs = some s) : s.H = H ∧ s.Es = Es ∧ next ≤ s.next ∧ ∀ A ∈ s.As, A ∈ As ∨ A.id = next := by
  unfold dFresh at h
  split at h
  · split at h
    · cases h
      refine ⟨rfl, rfl, Nat.le_succ _, fun A hA => ?_⟩
      cases hA with
      | head => exact .inr rfl
      | tail _ hA => exact .inl hA
    · cases h
  · cases h
theorem dRead_keep {i m : Nat} {o : Oper} {F : Fr} {H : Heap} {As : List Fresh} {next : Nat} {Es : List Was} {Rs : List Looked} {s : DS} (h : dRead P n i m o F H As next Es Rs = some s) : s.H = H ∧ s.Es = Es ∧ s.As = As ∧ s.next = next := by
  unfold dRead at h
  split at h
  · split at h
    · split at h
      · cases h; exact ⟨rfl, rfl, rfl, rfl⟩
      · cases h
    · cases h
  · cases h
theorem dPure_keep {o : Oper} {x : Option Value} {F : Fr} {H : Heap} {As : List Fresh} {next : Nat} {Es : List Was} {Rs : List Looked} {s : DS} (h : dPure n o x F H As next Es Rs = some s) : s.H = H ∧ s.Es = Es ∧ s.As = As ∧ s.next = next := by
  unfold dPure at h
  split at h
  · split at h
    · cases h; exact ⟨rfl, rfl, rfl, rfl⟩
    · cases h
  · cases h
theorem dStep_keep {r : Rec} {a : Array Oper} {i m : Nat} {o : Oper} {F : Fr} {H : Heap} {As : List Fresh} {next : Nat} {Es : List Was} {Rs : List Looked} {s : DS} (h : dStep P r n a i m o F H As next Es Rs = some s) (he : isEf (clOf o.op) = false) : s.H = H ∧ s.Es = Es ∧ next ≤ s.next ∧ ∀ A ∈ s.As, A ∈ As ∨ A.id = next := by
  have w : ∀ {x : DS}, x.H = H ∧ x.Es = Es ∧ x.As = As ∧ x.next = next → x.H = H ∧ x.Es = Es ∧ next ≤ x.next ∧ ∀ A ∈ x.As, A ∈ As ∨ A.id = next := fun ⟨h1, h2, h3, h4⟩ => ⟨h1, h2, Nat.le_of_eq h4.symm, fun A hA => .inl (h3 ▸ hA)⟩
  unfold dStep at h
  split at h
  · unfold dOp at h
    split at h
    · exact w (dPure_keep h)
    · exact w (dRead_keep h)
    · split at h
      · exact w (dPure_keep h)
      · exact w (dRead_keep h)
    · exact dFresh_keep h
    · rename_i hc; rw [hc] at he; cases he
    · rename_i hc; rw [hc] at he; cases he
    · cases h
  · exact w (dPure_keep h)
  · cases h
theorem accA_snoc : ∀ (l : List Oper) (o : Oper) (i : Nat) (acc : List (Nat × Cl)), accA (l ++ [o]) i acc = (i + l.length, clOf o.op) :: accA l i acc
  | [], _, _, _ => rfl
  | x :: l, o, i, acc => by
    show accA (l ++ [o]) (i + 1) _ = _
    rw [accA_snoc l o (i + 1), List.length_cons, show i + 1 + l.length = i + (l.length + 1) by omega]
    rfl

/-- A look at cells that stand, in whatever order. -/
theorem look_step {r : Rec} {a : Array Oper} {i m : Nat} {o : Oper} {F : Fr} {H : Heap} {As : List Fresh} {next lo : Nat} {Es : List Was} {Rs : List Looked} {Pc : List (Nat × AObj)} {d t x : Nat} {p v : Value} (hd : o.dst = some d) (ho : o.op = .load t (.tmp x)) (hg : guardB a F o.guard = some true) (hdn : dstOk n o.dst = true)
    (hx : F.get x = some p) (hv : LkV P Pc t p v) (hH : PcH Pc H.t) (hE : ∀ e ∈ Es, PcH Pc e.H.t) (hlo : ∀ q ∈ Pc, q.1 < lo) (hA : ∀ A ∈ As, lo ≤ A.id) :
    dStep P r n a i m o F H As next Es Rs = some ⟨F.put o.dst v, H, As, next, Es, ⟨i, o, v, F⟩ :: Rs⟩ := by
  have lk : ∀ tr nx, PcH Pc tr → xlook P (F.ev P) ⟨tr, nx⟩ o = some v := by
    intro tr nx htr
    have : xheap P (F.ev P) ⟨tr, nx⟩ o = some (v, ⟨tr, nx⟩) := by
      unfold xheap
      rw [ho]
      show xhLoad P (F.ev P) ⟨tr, nx⟩ t (.tmp x) = _
      unfold xhLoad
      rw [show F.ev P (.tmp x) = some p from hx]
      simp only [hv.1 tr nx htr]
    unfold xlook
    rw [this]
    simp only [Nat.beq_refl]
  have hput : dput n F o.dst v = some (F.put o.dst v) := by
    unfold dput
    rw [hd] at hdn ⊢
    simp only [dstOk] at hdn
    split at hdn
    · cases hdn
    · rename_i hb; simp only [hb]; rfl
  have hb : back P F o v m As next Es = true := back_some fun e he => .inr (by
    unfold looks
    rw [lk _ _ ((hE e he).view hlo hA)]
    exact hv.2.refl)
  unfold dStep
  simp only [hg]
  unfold dOp
  rw [ho]
  simp only [clOf]
  unfold dRead
  simp only [lk _ _ (hH.view hlo hA), hb, hput]

/-- What is known in the midst of a drawn region. -/
structure DInv (P : Program) (a : Array Oper) (fl : Nat → Bool) (Pc : List (Nat × AObj)) (lo i : Nat) (s : DS) : Prop where
  hA : ∀ A ∈ s.As, (∃ c, (A.ix, c) ∈ accA (a.toList.take i) 0 [] ∧ isFr c = true) ∧ A.id < s.next
  hB : ∀ A ∈ s.As, lo ≤ A.id
  hE : ∀ e ∈ s.Es, ∃ c, (e.ix, c) ∈ accA (a.toList.take i) 0 [] ∧ isEf c = true
  hP : ∀ e ∈ s.Es, PcH Pc e.H.t
  hR : ∀ q ∈ s.Rs, ∃ c, (q.ix, c) ∈ accA (a.toList.take i) 0 [] ∧ isLk c = true
  hX : ∀ q ∈ s.Rs, fl q.ix = true → ∃ d t x p, q.o.dst = some d ∧ q.o.op = .load t (.tmp x) ∧ q.F.get x = some p ∧ LkV P Pc t p q.v
  hn : s.H.next ≤ s.next
  hb : lo ≤ s.next
  pc : PcH Pc s.H.t
  pl : ∀ q ∈ Pc, q.1 < lo
/-- The order that is asked for: looks that fl names are free. -/
def serialX (fl : Nat → Bool) : List Oper → List Nat → Nat → List (Nat × Cl) → Bool
  | [], _, _, _ => true
  | o :: l, m :: ms, i, acc => (match fl i with
    | true => loadOf o
    | false => okOp o && serialAtF (clOf o.op) m fl (fun _ => false) acc) && serialX fl l ms (i + 1) ((i, clOf o.op) :: acc)
  | _ :: _, [], _, _ => false
def noEf : List Oper → Bool
  | [] => true
  | o :: l => !isEf (clOf o.op) && noEf l

theorem DInv.forth {a : Array Oper} {fl : Nat → Bool} {Pc : List (Nat × AObj)} {lo i : Nat} {s : DS} (h : DInv P a fl Pc lo i s) {H' : Heap} (hp : PcH Pc H'.t) : ∀ q ∈ s.Rs, fl q.ix = true → looks P (q.F.ev P) H' q.o q.v = true := by
  intro q hq hf
  obtain ⟨d, t, x, p, h1, h2, h3, h4⟩ := h.hX q hq hf
  have : xheap P (q.F.ev P) H' q.o = some (q.v, H') := by
    unfold xheap
    rw [h2]
    show xhLoad P (q.F.ev P) H' t (.tmp x) = _
    unfold xhLoad
    rw [show q.F.ev P (.tmp x) = some p from h3]
    simp only [h4.1 H'.t H'.next hp]
  unfold looks xlook
  rw [this]
  simp only [Nat.beq_refl, h4.2.refl]

theorem take_snoc {a : Array Oper} {i : Nat} {o : Oper} {l : List Oper} (h : a.toList.drop i = o :: l) : a.toList.take (i + 1) = a.toList.take i ++ [o] ∧ (a.toList.take i).length = i ∧ a.toList.drop (i + 1) = l ∧ nth i a.toList = some o := by
  have hi : i < a.toList.length := by
    rcases Nat.lt_or_ge i a.toList.length with h' | h'
    · exact h'
    · rw [List.drop_eq_nil_of_le h'] at h; cases h
  have e : a.toList[i] = o := by
    have := List.drop_eq_getElem_cons hi
    rw [h] at this
    exact (List.cons.inj this).1.symm
  refine ⟨by rw [List.take_succ_eq_append_getElem hi, e], by rw [List.length_take]; omega, by rw [← List.tail_drop, h]; rfl, ?_⟩
  rw [nth_eq, List.getElem?_eq_getElem hi, e]
theorem acc_snoc {a : Array Oper} {i : Nat} {o : Oper} {l : List Oper} (h : a.toList.drop i = o :: l) : accA (a.toList.take (i + 1)) 0 [] = (i, clOf o.op) :: accA (a.toList.take i) 0 [] := by
  obtain ⟨h1, h2, _, _⟩ := take_snoc h
  rw [h1, accA_snoc, h2, Nat.zero_add]

theorem serialAtF_lk {c : Cl} {m : Nat} {f g : Nat → Bool} (hc : isEf c = false) : ∀ {acc : List (Nat × Cl)}, serialAtF c m f g acc = true → serialAtF c m (fun _ => false) g acc = true
  | [], _ => rfl
  | (j, e) :: l, h => by
    simp only [serialAtF, Bool.and_eq_true] at h ⊢
    refine ⟨?_, serialAtF_lk hc h.2⟩
    have h1 := h.1
    cases hf : f j with
    | false => rw [hf] at h1; exact h1
    | true =>
      cases e <;> cases c <;> simp_all [waits, isFr, isEf, isLk]
theorem DInv.pass {a : Array Oper} {fl : Nat → Bool} {Pc : List (Nat × AObj)} {lo i : Nat} {s : DS} (h : DInv P a fl Pc lo i s) {o : Oper} {l : List Oper} (hd : a.toList.drop i = o :: l) (F : Fr) : DInv P a fl Pc lo (i + 1) ⟨F, s.H, s.As, s.next, s.Es, s.Rs⟩ where
  hA A hx := by
    obtain ⟨⟨c, h1, h2⟩, h3⟩ := h.hA A hx
    exact ⟨⟨c, by rw [acc_snoc hd]; exact .tail _ h1, h2⟩, h3⟩
  hB := h.hB
  hE A hx := by
    obtain ⟨c, h1, h2⟩ := h.hE A hx
    exact ⟨c, by rw [acc_snoc hd]; exact .tail _ h1, h2⟩
  hP := h.hP
  hR A hx := by
    obtain ⟨c, h1, h2⟩ := h.hR A hx
    exact ⟨c, by rw [acc_snoc hd]; exact .tail _ h1, h2⟩
  hX := h.hX
  hn := h.hn
  hb := h.hb
  pc := h.pc
  pl := h.pl
theorem soLoad {r : Rec} {o : Oper} {t x : Nat} (ho : o.op = .load t (.tmp x)) {F : Fr} {D D' : Dl} {H H' : Heap} {rc rc' : RC} {v : Value} (h : stepOp P r o F D H rc = .val v D' H' rc') : D' = D ∧ H' = H ∧ rc' = rc := by
  obtain ⟨dst, op, ty, pos, af, g⟩ := o
  simp only at ho
  subst ho
  have h : soHeap (xhLoad P (F.ev P) H t (.tmp x)) D rc = .val v D' H' rc' := h
  unfold xhLoad at h
  split at h
  · split at h
    · cases h; exact ⟨rfl, rfl, rfl⟩
    · cases h
  · cases h

theorem segN_ops (hn : HkN hk) {a : Array Oper} {fl : Nat → Bool} {Pc : List (Nat × AObj)} {lo Kf : Nat} : ∀ (l : List Oper) (k : Nat) (ms : List Nat) (i : Nat) (s : DS) (D : Dl) (rc : RC) (F' : Fr) (D' : Dl) (H' : Heap) (rc' : RC) (tl : List Oper), k ≤ Kf → a.toList.drop i = l ++ tl → keepL l = true →
    serialX fl l ms i (accA (a.toList.take i) 0 []) = true → noEf l = true → DInv P a fl Pc lo i s →
    (∀ j o d t x, i ≤ j → j < i + l.length → fl j = true → nth j a.toList = some o → o.dst = some d → o.op = .load t (.tmp x) → ∃ v p, F'.get d = some v ∧ F'.get x = some p ∧ LkV P Pc t p v) →
    (run P hk k).ops n a l s.F D (vw s.H s.As s.next) rc = .normal F' D' H' rc' →
    D' = D ∧ rc' = rc ∧ ∃ s', dOps P (run P hk Kf) n a l ms i s = some s' ∧ s'.F = F' ∧ vw s'.H s'.As s'.next = H' ∧ DInv P a fl Pc lo (i + l.length) s'
  | [], k, ms, i, s, D, rc, F', D', H', rc', tl, _, _, _, _, _, hI, _, hrun => by
    cases k with
    | zero => cases hrun
    | succ k =>
      rw [ops_succ] at hrun
      unfold stepOps at hrun
      simp only [Out.normal.injEq] at hrun
      obtain ⟨rfl, rfl, rfl, rfl⟩ := hrun
      exact ⟨rfl, rfl, s, by cases ms <;> rfl, rfl, rfl, hI⟩
  | o :: l, k, [], i, s, D, rc, F', D', H', rc', tl, _, _, _, hs, _, _, _, _ => by cases hs
  | o :: l, 0, m :: ms, i, s, D, rc, F', D', H', rc', tl, _, _, _, _, _, _, _, hrun => by cases hrun
  | o :: l, k + 1, m :: ms, i, s, D, rc, F', D', H', rc', tl, hk', hdr, hkp, hs, hne, hI, hfin, hrun => by
    have hdr0 : a.toList.drop i = o :: (l ++ tl) := hdr
    obtain ⟨_, _, hdr', hi⟩ := take_snoc hdr0
    simp only [serialX, Bool.and_eq_true] at hs
    obtain ⟨hop, hrest⟩ := hs
    rw [← acc_snoc hdr0] at hrest
    simp only [noEf, Bool.and_eq_true, Bool.not_eq_true'] at hne
    obtain ⟨hne1, hne2⟩ := hne
    have hkp' : keepL l = true := by
      simp only [keepL, Bool.and_eq_true] at hkp
      exact hkp.2
    have hfin' : ∀ j o d t x, i + 1 ≤ j → j < i + 1 + l.length → fl j = true → nth j a.toList = some o → o.dst = some d → o.op = .load t (.tmp x) → ∃ v p, F'.get d = some v ∧ F'.get x = some p ∧ LkV P Pc t p v :=
      fun j o d t x h1 h2 => hfin j o d t x (by omega) (by rw [List.length_cons]; omega)
    have go : ∀ {s1 : DS} {D1 : Dl} {rc1 : RC} {H1 : Heap}, dStep P (run P hk Kf) n a i m o s.F s.H s.As s.next s.Es s.Rs = some s1 → DInv P a fl Pc lo (i + 1) s1 → vw s1.H s1.As s1.next = H1 → (run P hk k).ops n a l s1.F D1 H1 rc1 = .normal F' D' H' rc' → D1 = D → rc1 = rc →
        D' = D ∧ rc' = rc ∧ ∃ s', dOps P (run P hk Kf) n a (o :: l) (m :: ms) i s = some s' ∧ s'.F = F' ∧ vw s'.H s'.As s'.next = H' ∧ DInv P a fl Pc lo (i + (o :: l).length) s' := by
      rintro s1 D1 rc1 H1 h1 h2 rfl h4 rfl rfl
      obtain ⟨g1, g2, s', g3, g4, g5, g6⟩ := segN_ops (Kf := Kf) hn l k ms (i + 1) s1 D1 rc1 F' D' H' rc' tl (by omega) hdr' hkp' hrest hne2 h2 hfin' h4
      refine ⟨g1, g2, s', ?_, g4, g5, ?_⟩
      · simp only [dOps, h1]; exact g3
      · rw [List.length_cons, show i + (l.length + 1) = i + 1 + l.length by omega]; exact g6
    rw [ops_succ] at hrun
    unfold stepOps at hrun
    simp only at hrun
    split at hrun
    · rename_i hg
      unfold soThen at hrun
      split at hrun
      · rename_i v D1 H1 rc1 hopr
        have hdst : dstOk n o.dst = true ∧ (run P hk k).ops n a l (s.F.put o.dst v) D1 H1 rc1 = .normal F' D' H' rc' := by
          unfold soNext at hrun
          cases hdd : o.dst with
          | none => rw [hdd] at hrun; exact ⟨rfl, hrun⟩
          | some d =>
            rw [hdd] at hrun
            simp only at hrun
            split at hrun
            · cases hrun
            · rename_i hb; exact ⟨by simp only [dstOk, hb], hrun⟩
        obtain ⟨hdst, hrun'⟩ := hdst
        cases hfi : fl i with
        | true =>
          rw [hfi] at hop
          obtain ⟨d, t, x, hd, ho, hdx⟩ := loadOf_spec hop
          obtain ⟨rfl, rfl, rfl⟩ := soLoad ho hopr
          obtain ⟨v', p, f1, f2, f3⟩ := hfin i o d t x (Nat.le_refl _) (by rw [List.length_cons]; omega) hfi hi hd ho
          have hw : ∀ q ∈ l, ∀ e, q.dst = some e → e ≠ d ∧ e ≠ x := by
            simp only [keepL, hd, ho, Bool.and_eq_true] at hkp
            have hnw := hkp.1.2
            clear hkp hrun hrun' hfin hfin' go hrest hdr hdr' hdr0 hne2 hkp'
            induction l with
            | nil => intro q hq; cases hq
            | cons y l ih =>
              intro q hq e he
              obtain ⟨n1, n2⟩ := noW_cons hnw
              cases hq with
              | head => exact n1 e he
              | tail _ hq => exact ih n2 q hq e he
          have w1 := ops_noW (d := d) l k hrun' fun q hq e he => (hw q hq e he).1
          have w2 := ops_noW (d := x) l k hrun' fun q hq e he => (hw q hq e he).2
          rw [f1, hd, show (s.F.put (some d) v).get d = some v from Tr.get_set_same _ _ _] at w1
          rw [f2, hd, show (s.F.put (some d) v).get x = s.F.get x from Fr.put_ne fun e he => by cases he; exact hdx] at w2
          cases w1
          have hst := look_step (P := P) (r := run P hk Kf) (a := a) (n := n) (i := i) (m := m) (H := s.H) (As := s.As) (next := s.next) (Es := s.Es) (Rs := s.Rs) hd ho hg hdst w2.symm f3 hI.pc hI.hP hI.pl hI.hB
          refine go hst ?_ rfl hrun' rfl rfl
          have hp := hI.pass hdr0 (s.F.put o.dst v)
          exact ⟨hp.hA, hp.hB, hp.hE, hp.hP, fun q hq => by
            cases hq with
            | head => exact ⟨_, by rw [acc_snoc hdr0]; exact .head _, by rw [ho]; rfl⟩
            | tail _ hq => exact hp.hR q hq, fun q hq hf => by
            cases hq with
            | head => exact ⟨d, t, x, p, hd, ho, w2.symm, f3⟩
            | tail _ hq => exact hp.hX q hq hf, hp.hn, hp.hb, hp.pc, hp.pl⟩
        | false =>
          rw [hfi] at hop
          simp only [Bool.and_eq_true] at hop
          have hle : k ≤ Kf := by omega
          have hopr' : stepOp P (run P hk Kf) o s.F D (vw s.H s.As s.next) rc = .val v D1 H1 rc1 := by rw [le_stepOp (run_le P hk hle) _ _ _ _ _ (by rw [hopr]; simp), hopr]
          obtain ⟨rfl, rfl, s1, e1, e2, e3, e4, e5, e6, e7, e8⟩ := serial_step (nm_run P hn Kf) (n := n) (i := i) (m := m) (a := a) (fl := fun _ => false) (gl := fun _ => false) hop.1 (serialAtF_lk hne1 hop.2) hI.hA hI.hE hI.hR hI.hn hdst hg hopr' (fun q _ h => by cases h) (fun e _ h => by cases h)
          obtain ⟨k1, k2, hnx, k3⟩ := dStep_keep e1 hne1
          refine go e1 ⟨by rw [acc_snoc hdr0]; exact e5, fun A hA => ?_, by rw [acc_snoc hdr0]; exact e6, by rw [k2]; exact hI.hP, by rw [acc_snoc hdr0]; exact e7, fun q hq hf => ?_, e4, Nat.le_trans hI.hb hnx, by rw [k1]; exact hI.pc, hI.pl⟩ e3 (by rw [e2]; exact hrun') rfl rfl
          · rcases k3 A hA with h | h
            · exact hI.hB A h
            · rw [h]; exact hI.hb
          · rcases e8 with h | h
            · rw [h] at hq; exact hI.hX q hq hf
            · rw [h] at hq
              cases hq with
              | head => rw [hfi] at hf; cases hf
              | tail _ hq => exact hI.hX q hq hf
      · cases hrun
      · cases hrun
    · rename_i hg
      have hdst : dput n s.F o.dst undef = some (s.F.put o.dst undef) ∧ (run P hk k).ops n a l (s.F.put o.dst undef) D (vw s.H s.As s.next) rc = .normal F' D' H' rc' := by
        unfold soNext at hrun
        unfold dput
        cases hdd : o.dst with
        | none => rw [hdd] at hrun; exact ⟨rfl, hrun⟩
        | some d =>
          rw [hdd] at hrun
          simp only at hrun
          split at hrun
          · cases hrun
          · rename_i hb; simp only [hb]; exact ⟨rfl, hrun⟩
      refine go (s1 := ⟨s.F.put o.dst undef, s.H, s.As, s.next, s.Es, s.Rs⟩) ?_ (hI.pass hdr0 _) rfl hdst.2 rfl rfl
      unfold dStep
      simp only [hg]
      unfold dPure
      simp only [hdst.1]
    · cases hrun

inductive LooksP (T : TT) (a : Array Oper) (Pc : List (Nat × AObj)) (E : Env) : List Nat → Prop where
  | nil : LooksP T a Pc E []
  | cons {i l d t x ty pos af g v id off cells e k tk sz tb ag z vs} : nth i a.toList = some ⟨some d, .load t (.tmp x), ty, pos, af, g⟩ → E.get d = some v → E.get x = some (.pointer (some ⟨id, off, none⟩)) → (id, AObj.row cells e k) ∈ Pc → isDead k = false →
      T.get t = some ⟨tk, sz, tb, ag, z⟩ → takeX sz (cells.drop off) = some vs → mkV ag vs = some v → VR v → LooksP T a Pc E l → LooksP T a Pc E (i :: l)
theorem LooksP.at {T : TT} (hT : TOk P T) {a : Array Oper} {Pc : List (Nat × AObj)} {E : Env} {l : List Nat} (h : LooksP T a Pc E l) {F : Fr} (ha : Agree F E) {i d t x : Nat} {o : Oper} (hi : memN i l = true) (hn : nth i a.toList = some o) (hd : o.dst = some d) (ho : o.op = .load t (.tmp x)) :
    ∃ v p, F.get d = some v ∧ F.get x = some p ∧ LkV P Pc t p v := by
  induction h with
  | nil => cases hi
  | cons h1 h2 h3 h4 h5 h6 h7 h8 h9 _ ih =>
    simp only [memN] at hi
    split at hi
    · rename_i hb
      have := Nat.eq_of_beq_eq_true hb
      subst this
      rw [h1] at hn
      have hn := Option.some.inj hn
      subst hn
      cases hd
      cases ho
      refine ⟨_, _, ha _ _ h2, ha _ _ h3, fun tr nx hp => ?_, h9⟩
      refine mkV_load hT h6 ?_ h8
      unfold xcells
      have hg : (⟨tr, nx⟩ : Heap).get _ = some _ := hp _ h4
      simp only [hg, h5, h7]
    · exact ih hi
inductive AtAll (L : List Seg) : List (Nat × AObj) → Prop where
  | nil : AtAll L []
  | cons {id o l} : At L id o → AtAll L l → AtAll L ((id, o) :: l)
theorem AtAll.get {L : List Seg} {Pc : List (Nat × AObj)} (h : AtAll L Pc) {M : Imm} {H : Heap} (hs : Sat M L.flatten H) : ∀ p ∈ Pc, H.get p.1 = some p.2 := by
  induction h with
  | nil => intro p hp; cases hp
  | cons h1 _ ih =>
    intro p hp
    cases hp with
    | head => exact hs.at h1
    | tail _ hp => exact ih p hp
theorem dStep_ef {r : Rec} {a : Array Oper} {i m : Nat} {o : Oper} {F : Fr} {H : Heap} {As : List Fresh} {next : Nat} {Es : List Was} {Rs : List Looked} {s : DS} (h : dStep P r n a i m o F H As next Es Rs = some s) (he : isEf (clOf o.op) = true) : s.As = As ∧ next ≤ s.next := by
  have w : ∀ {x : Heap → Option (Value × Heap)}, dEffect P n i m o x F H As next Es Rs = some s → s.As = As ∧ next ≤ s.next := by
    intro x h
    unfold dEffect at h
    split at h
    · split at h
      · split at h
        · rename_i hb; cases h; exact ⟨rfl, Nat.le_of_ble_eq_true hb⟩
        · cases h
      · cases h
    · cases h
  unfold dStep at h
  split at h
  · unfold dOp at h
    split at h
    · rename_i hc; rw [hc] at he; cases he
    · rename_i hc; rw [hc] at he; cases he
    · rename_i hc; rw [hc] at he; cases he
    · rename_i hc; rw [hc] at he; cases he
    · exact w h
    · split at h
      · exact w h
      · cases h
    · cases h
  · obtain ⟨h1, h2, h3, h4⟩ := dPure_keep h
    exact ⟨h3, Nat.le_of_eq h4.symm⟩
  · cases h

theorem dStep_r {r1 r2 : Rec} {a : Array Oper} {i m : Nat} {o : Oper} {F : Fr} {H : Heap} {As : List Fresh} {next : Nat} {Es : List Was} {Rs : List Looked} (he : isEf (clOf o.op) = false) : dStep P r1 n a i m o F H As next Es Rs = dStep P r2 n a i m o F H As next Es Rs := by
  unfold dStep
  cases guardB a F o.guard with
  | none => rfl
  | some b =>
    cases b with
    | false => rfl
    | true =>
      simp only
      unfold dOp
      cases hc : clOf o.op <;> rw [hc] at he <;> first | rfl | (cases he; done)
theorem dOps_r {r1 r2 : Rec} {a : Array Oper} : ∀ (l : List Oper) (ms : List Nat) (i : Nat) (s : DS), noEf l = true → dOps P r1 n a l ms i s = dOps P r2 n a l ms i s
  | [], _, _, _, _ => by simp only [dOps]
  | _ :: _, [], _, _, _ => by simp only [dOps]
  | o :: l, m :: ms, i, s, h => by
    simp only [noEf, Bool.and_eq_true, Bool.not_eq_true'] at h
    simp only [dOps]
    rw [dStep_r (r2 := r2) h.1]
    split
    · exact dOps_r l ms (i + 1) _ h.2
    · rfl

/-- The rest of a drawn region, from operation i on. -/
def DrawP (P : Program) (hk : FuncId → Option (List Value → Heap → AEnd)) (n : Nat) (Q : LPost) (K : List KI) (D : Dl) (a : Array Oper) (fl : Nat → Bool) (Pc : List (Nat × AObj)) (rc : RC) (i : Nat) (E : Env) (M : Imm) (L : List Seg) : Prop :=
  ∀ (s : DS) (lo : Nat), DInv P a fl Pc lo i s → Agree s.F E → Sat M L.flatten (vw s.H s.As s.next) → ∃ (k0 : Nat) (s' : DS) (E' : Env) (M' : Imm) (L' : List Seg),
    (∀ Kf, k0 ≤ Kf → dOps P (run P hk Kf) n a (a.toList.drop i) ((befores a).drop i) i s = some s') ∧ Agree s'.F E' ∧ Sat M' L'.flatten (vw s'.H s'.As s'.next) ∧ MLe M M' ∧ Frm L.flatten (vw s.H s.As s.next) L'.flatten (vw s'.H s'.As s'.next) ∧ J P hk n Q K E' D M' L' rc

theorem DrawP.done {a : Array Oper} {fl : Nat → Bool} {Pc : List (Nat × AObj)} {i : Nat} (h : a.toList.drop i = []) (hj : J P hk n Q K E D M L rc) : DrawP P hk n Q K D a fl Pc rc i E M L :=
  fun s _ _ ha hs => ⟨0, s, E, M, L, fun Kf _ => by rw [h]; cases (befores a).drop i <;> rfl, ha, hs, MLe.refl _, Frm.refl _ _, hj⟩
theorem drop_add_eq {α : Type} {l : List α} {i len : Nat} {x : List α} (h : (l.drop i).take len = x) : l.drop i = x ++ l.drop (i + len) := by
  rw [← h, ← List.drop_drop, List.take_append_drop]
theorem DrawP.segN {T : TT} (hT : TOk P T) (hn : HkN hk) {a : Array Oper} {fl : Nat → Bool} {Pc : List (Nat × AObj)} {i : Nat} (len : Nat) (fls : List Nat) {l : List Oper} (e1 : (a.toList.drop i).take len = l) (e2 : Nat.beq l.length len = true)
    (hst : (keepL l && noEf l && serialX fl l ((befores a).drop i) i (accA (a.toList.take i) 0 []) && (List.range len).all fun j => !fl (i + j) || memN (i + j) fls) = true)
    (h : J P hk n (fun E' D' M' L' rc' m => m = .ret ∧ D' = D ∧ rc' = rc ∧ LooksP T a Pc E' fls ∧ DrawP P hk n Q K D a fl Pc rc (i + len) E' M' L') [.ops a l] E D M L rc) : DrawP P hk n Q K D a fl Pc rc i E M L := by
  intro s lo hI ha hs
  have e2 := Nat.eq_of_beq_eq_true e2
  have hdr := drop_add_eq e1
  simp only [Bool.and_eq_true] at hst
  obtain ⟨⟨⟨t1, t2⟩, t3⟩, t4⟩ := hst
  obtain ⟨k, F1, H1, E1, M1, L1, r1, a1, a2, a3, a4, hlk, hD⟩ := J.opsRun (R := fun E' M' L' => LooksP T a Pc E' fls ∧ DrawP P hk n Q K D a fl Pc rc (i + len) E' M' L') h ha hs
  obtain ⟨_, _, s1, g1, g2, g3, g4⟩ := segN_ops (Kf := k) hn l k ((befores a).drop i) i s D rc F1 D H1 rc (a.toList.drop (i + len)) (Nat.le_refl _) hdr t1 t3 t2 hI (fun j o d t x h1 h2 h3 h4 h5 h6 => by
    refine hlk.at hT a1 ?_ h4 h5 h6
    have := List.all_eq_true.1 t4 (j - i) (List.mem_range.2 (by omega))
    rw [show i + (j - i) = j by omega, h3] at this
    simpa using this) r1
  rw [e2] at g4
  obtain ⟨k0, s', E', M', L', d1, d2, d3, d4, d5, d6⟩ := hD s1 lo g4 (by rw [g2]; exact a1) (by rw [g3]; exact a2)
  refine ⟨k0, s', E', M', L', fun Kf hKf => ?_, d2, d3, a3.trans d4, a4.trans (by rw [g3] at d5; exact d5), d6⟩
  rw [hdr, dOps_app l _ _ _ _ s1 (by rw [dOps_r (r2 := run P hk k) l _ _ _ t2]; exact g1), e2, List.drop_drop]
  exact d1 Kf hKf

theorem dStep_ef_full {r : Rec} {a : Array Oper} {i m : Nat} {o : Oper} {F : Fr} {H : Heap} {As : List Fresh} {next : Nat} {Es : List Was} {Rs : List Looked} {s : DS} (h : dStep P r n a i m o F H As next Es Rs = some s) (he : isEf (clOf o.op) = true) (hg : guardB a F o.guard = some true) :
    s.As = As ∧ next ≤ s.next ∧ s.H.next = s.next ∧ s.Es = ⟨i, H⟩ :: Es ∧ s.Rs = Rs := by
  have w : ∀ {x : Heap → Option (Value × Heap)}, dEffect P n i m o x F H As next Es Rs = some s → s.As = As ∧ next ≤ s.next ∧ s.H.next = s.next ∧ s.Es = ⟨i, H⟩ :: Es ∧ s.Rs = Rs := by
    intro x h
    unfold dEffect at h
    split at h
    · split at h
      · split at h
        · rename_i hb; cases h; exact ⟨rfl, Nat.le_of_ble_eq_true hb, rfl, rfl, rfl⟩
        · cases h
      · cases h
    · cases h
  unfold dStep at h
  simp only [hg] at h
  unfold dOp at h
  split at h
  · rename_i hc; rw [hc] at he; cases he
  · rename_i hc; rw [hc] at he; cases he
  · rename_i hc; rw [hc] at he; cases he
  · rename_i hc; rw [hc] at he; cases he
  · exact w h
  · split at h
    · exact w h
    · cases h
  · cases h
/-- An effect, alone; whether its turn comes or not. -/
theorem DrawP.segE (hn : HkN hk) {a : Array Oper} {fl : Nat → Bool} {Pc : List (Nat × AObj)} {i : Nat} {o : Oper} (e1 : (a.toList.drop i).take 1 = [o])
    (hst : (okOp o && isEf (clOf o.op) && match (befores a).drop i with | m :: _ => serialAtF (clOf o.op) m fl (fun _ => false) (accA (a.toList.take i) 0 []) | [] => false) = true)
    (h : J P hk n (fun E' D' M' L' rc' m => m = .ret ∧ D' = D ∧ rc' = rc ∧ AtAll L' Pc ∧ DrawP P hk n Q K D a fl Pc rc (i + 1) E' M' L') [.ops a [o]] E D M L rc) : DrawP P hk n Q K D a fl Pc rc i E M L := by
  intro s lo hI ha hs
  have hdr := drop_add_eq e1
  have hdr : a.toList.drop i = o :: a.toList.drop (i + 1) := hdr
  simp only [Bool.and_eq_true] at hst
  obtain ⟨⟨t1, t2⟩, t3⟩ := hst
  cases hms : (befores a).drop i with
  | nil => rw [hms] at t3; cases t3
  | cons m ms =>
    rw [hms] at t3
    have hms' : (befores a).drop (i + 1) = ms := by rw [← List.tail_drop, hms]; rfl
    obtain ⟨k, F1, H1, E1, M1, L1, r1, a1, a2, a3, a4, hat, hD⟩ := J.opsRun (R := fun E' M' L' => AtAll L' Pc ∧ DrawP P hk n Q K D a fl Pc rc (i + 1) E' M' L') h ha hs
    have fin : ∀ (s1 : DS) (k1 : Nat), (∀ Kf, k1 ≤ Kf → dStep P (run P hk Kf) n a i m o s.F s.H s.As s.next s.Es s.Rs = some s1) → DInv P a fl Pc lo (i + 1) s1 → s1.F = F1 → vw s1.H s1.As s1.next = H1 → ∃ (k0 : Nat) (s' : DS) (E' : Env) (M' : Imm) (L' : List Seg),
        (∀ Kf, k0 ≤ Kf → dOps P (run P hk Kf) n a (a.toList.drop i) (m :: ms) i s = some s') ∧ Agree s'.F E' ∧ Sat M' L'.flatten (vw s'.H s'.As s'.next) ∧ MLe M M' ∧ Frm L.flatten (vw s.H s.As s.next) L'.flatten (vw s'.H s'.As s'.next) ∧ J P hk n Q K E' D M' L' rc := by
      intro s1 k1 h1 h2 h3 h4
      obtain ⟨k0, s', E', M', L', d1, d2, d3, d4, d5, d6⟩ := hD s1 lo h2 (by rw [h3]; exact a1) (by rw [h4]; exact a2)
      refine ⟨max k0 k1, s', E', M', L', fun Kf hKf => ?_, d2, d3, a3.trans d4, a4.trans (by rw [h4] at d5; exact d5), d6⟩
      rw [hdr]
      simp only [dOps]
      rw [h1 Kf (Nat.le_trans (Nat.le_max_right _ _) hKf)]
      simp only
      rw [← hms']
      exact d1 Kf (Nat.le_trans (Nat.le_max_left _ _) hKf)
    cases k with
    | zero => cases r1
    | succ k =>
      rw [ops_succ] at r1
      unfold stepOps at r1
      simp only at r1
      have one : ∀ {v : Value} {D1 : Dl} {H2 : Heap} {rc1 : RC}, soNext (run P hk k) n a [] o.dst v s.F D1 H2 rc1 = .normal F1 D H1 rc → dstOk n o.dst = true ∧ F1 = s.F.put o.dst v ∧ H1 = H2 ∧ D1 = D ∧ rc1 = rc ∧ dput n s.F o.dst v = some (s.F.put o.dst v) := by
        intro v D1 H2 rc1 h
        unfold soNext at h
        unfold dput
        cases hdd : o.dst with
        | none =>
          rw [hdd] at h
          simp only at h
          cases k with
          | zero => cases h
          | succ k =>
            rw [ops_succ] at h
            unfold stepOps at h
            simp only [Out.normal.injEq] at h
            obtain ⟨rfl, rfl, rfl, rfl⟩ := h
            exact ⟨rfl, rfl, rfl, rfl, rfl, rfl⟩
        | some d =>
          rw [hdd] at h
          simp only at h
          split at h
          · cases h
          · rename_i hb
            cases k with
            | zero => cases h
            | succ k =>
              rw [ops_succ] at h
              unfold stepOps at h
              simp only [Out.normal.injEq] at h
              obtain ⟨rfl, rfl, rfl, rfl⟩ := h
              exact ⟨by simp only [dstOk, hb], rfl, rfl, rfl, rfl, by simp only [hb]; rfl⟩
      split at r1
      · rename_i hg
        unfold soThen at r1
        split at r1
        · rename_i v D1 H2 rc1 hopr
          obtain ⟨o1, o2, o3, o4, o5, _⟩ := one r1
          subst o3
          subst o4
          subst o5
          have hpc : ∀ p ∈ Pc, H1.get p.1 = some p.2 := hat.get a2
          have step : ∀ Kf, k ≤ Kf → ∃ s1, dStep P (run P hk Kf) n a i m o s.F s.H s.As s.next s.Es s.Rs = some s1 ∧ s1 = ⟨F1, H1, s.As, H1.next, ⟨i, s.H⟩ :: s.Es, s.Rs⟩ ∧ (∀ A ∈ s.As, A.id < H1.next) ∧ s.next ≤ H1.next := by
            intro Kf hKf
            have hopr' : stepOp P (run P hk Kf) o s.F D1 (vw s.H s.As s.next) rc1 = .val v D1 H1 rc1 := by rw [le_stepOp (run_le P hk hKf) _ _ _ _ _ (by rw [hopr]; simp), hopr]
            obtain ⟨_, _, s1, w1, w2, w3, w4, w5, w6, w7, w8⟩ := serial_step (nm_run P hn Kf) (n := n) (i := i) (m := m) (a := a) (fl := fl) (gl := fun _ => false) t1 t3 hI.hA hI.hE hI.hR hI.hn o1 hg hopr' (hI.forth hpc) (fun e _ h => by cases h)
            obtain ⟨y1, y2, y3, y4, y5⟩ := dStep_ef_full w1 t2 hg
            have hAs : ∀ A ∈ s1.As, A.id < s1.H.next := fun A hA => by rw [y1] at hA; have := (hI.hA A hA).2; omega
            have hH : vw s1.H s1.As s1.next = s1.H := by
              unfold vw
              rw [viewT_old hAs, ← y3]
            rw [hH] at w3
            refine ⟨s1, w1, ?_, fun A hA => ?_, by rw [← w3, y3]; exact y2⟩
            · obtain ⟨sF, sH, sAs, sn, sEs, sRs⟩ := s1
              simp only at y1 y3 y4 y5 w2 w3
              subst y1 y4 y5 w3
              rw [w2, y3, o2]
            · rw [← w3]; exact hAs A (by rw [y1]; exact hA)
          obtain ⟨s1, z1, z2, z3, z4⟩ := step k (Nat.le_refl _)
          have hp := hI.pass hdr F1
          refine fin ⟨F1, H1, s.As, H1.next, ⟨i, s.H⟩ :: s.Es, s.Rs⟩ k (fun Kf hKf => by
            obtain ⟨s2, q1, q2, _⟩ := step Kf hKf
            rw [q1, q2]) ⟨fun A hA => ⟨(hp.hA A hA).1, z3 A hA⟩, hI.hB, fun e he => ?_, fun e he => ?_, hp.hR, hp.hX, Nat.le_refl _, Nat.le_trans hI.hb z4, hpc, hI.pl⟩ rfl ?_
          · cases he with
            | head => exact ⟨_, by rw [acc_snoc hdr]; exact .head _, t2⟩
            | tail _ he => exact hp.hE e he
          · cases he with
            | head => exact hI.pc
            | tail _ he => exact hI.hP e he
          · unfold vw
            rw [viewT_old z3]
        · cases r1
        · cases r1
      · rename_i hg
        obtain ⟨o1, o2, o3, o4, o5, o6⟩ := one r1
        refine fin ⟨F1, s.H, s.As, s.next, s.Es, s.Rs⟩ 0 (fun Kf _ => ?_) (hI.pass hdr F1) rfl o3.symm
        unfold dStep
        simp only [hg]
        unfold dPure
        rw [o2]
        simp only [o6]
      · cases r1

/-- A drawn region, walked in the text's order; looks that fl names are at cells that stand. -/
theorem J.drawP (fl : Nat → Bool) (Pc : List (Nat × AObj)) {id : Nat} {a : Array Oper} (hf : P.follows .mixedOrders = true) (ho : orderly a = true) (hp : AtAll L Pc) (h : DrawP P hk n Q K D a fl Pc rc 0 E M L) (hsl : anySl a.toList = false := by decide +kernel) : J P hk n Q (.code (.region id a true) :: K) E D M L rc := by
  have hch := chainOf_none hsl
  intro F H ha hs
  have hv : vw H [] H.next = H := rfl
  obtain ⟨k0, s', E', M', L', d1, d2, d3, d4, d5, d6⟩ := h ⟨F, H, [], H.next, [], []⟩ H.next ⟨by simp, by simp, by simp, by simp, by simp, by simp, Nat.le_refl _, Nat.le_refl _, hp.get hs, fun q hq => hs.wf _ _ (hp.get hs q hq)⟩ ha hs
  obtain ⟨out, f1, f2⟩ := d6 s'.F (vw s'.H s'.As s'.next) d2 d3
  refine ⟨out, .go ⟨k0 + 1, ?_⟩ f1, f2.after d4 d5⟩
  rw [code_succ]
  show stepDraw P (run P hk k0) n a F D H rc = _
  unfold stepDraw
  have := d1 k0 (Nat.le_refl _)
  simp only [List.drop_zero] at this
  simp only [hf, ho, hch, this]
  rfl
end
end
end Go.Proofs.YtibeinbfhhoeiaaGreatDoor.Ab

namespace Go.Proofs.YtibeinbfhhoeiaaGreatDoor.Ab
open Go Go.Conc
noncomputable section
section
variable {P : Program} {hk : FuncId → Option (List Value → Heap → AEnd)} {n : Nat} {Q : LPost} {K : List KI} {E : Env} {D : Dl} {M : Imm} {L : List Seg} {rc : RC}

theorem chOp_of {F : Fr} {H : Heap} {o : Oper} {x : Value × Heap} (hc : floP o = true ∨ heapP o = true) (h : xop P (F.ev P) H o = some x) : chOp P F H o = some x := by
  unfold xop at h
  unfold chOp
  unfold floP heapP at hc
  cases hop : o.op <;> rw [hop] at hc h
  case call c =>
    simp only [clOf] at hc ⊢
    cases hcal : c.callee with
    | value f => rw [hcal] at hc; rcases hc with hc | hc <;> cases hc
    | invoke a b => rw [hcal] at hc; rcases hc with hc | hc <;> cases hc
    | builtin bu =>
      rw [hcal] at hc
      cases bu <;> first
        | (rcases hc with hc | hc <;> cases hc; done)
        | skip
      all_goals simp only [memOp] at h ⊢
      all_goals (
        cases hp : xpure P (F.ev P) o with
        | none => rw [hp] at h; first | exact h | (exfalso; unfold xheap xhCall at h; simp only [hop, hcal] at h; cases h)
        | some v => rw [hp] at h; first | exact h | (exfalso; unfold xpure xpCall at hp; simp only [hop, hcal] at hp; split at hp <;> first | (cases hp; done) | (unfold xbuiltin at hp; split at hp <;> cases hp)))
  all_goals simp only [clOf, isSl] at hc ⊢
  all_goals simp only [memOp] at h
  all_goals first
    | exact h
    | (rcases hc with hc | hc <;> cases hc; done)
    | skip
  all_goals (
    cases hp : xpure P (F.ev P) o with
    | none => rw [hp] at h; first | exact h | (exfalso; unfold xheap at h; simp only [hop] at h; cases h)
    | some v => rw [hp] at h; first | exact h | (exfalso; unfold xpure at hp; simp only [hop] at hp; cases hp))

theorem plain_ch {o : Oper} (hc : floP o = true ∨ heapP o = true) : plainOp o.op = true := by
  unfold floP heapP at hc
  cases hop : o.op <;> rw [hop] at hc <;> first | rfl | (simp only [clOf, isSl] at hc; rcases hc with hc | hc <;> cases hc; done) | skip
  case call c =>
    simp only [clOf, plainOp] at hc ⊢
    cases hcal : c.callee with
    | value f => rw [hcal] at hc; rcases hc with hc | hc <;> cases hc
    | invoke a b => rw [hcal] at hc; rcases hc with hc | hc <;> cases hc
    | builtin bu =>
      rw [hcal] at hc
      cases bu <;> first | rfl | (rcases hc with hc | hc <;> cases hc; done)

def opsAt (a : Array Oper) : List Nat → List Oper
  | [] => []
  | i :: l => match nth i a.toList with
    | some o => o :: opsAt a l
    | none => opsAt a l

theorem chOps_run {a : Array Oper} : ∀ (L0 done : List Nat) (k : Nat) (F : Fr) (D : Dl) (H : Heap) (rc : RC) (F1 : Fr) (D1 : Dl) (H1 : Heap) (rc1 : RC), chGood a done L0 = true → (run P hk k).ops n a (opsAt a L0) F D H rc = .normal F1 D1 H1 rc1 →
    chOps P n a L0 F H = some (F1, H1) ∧ D1 = D ∧ rc1 = rc
  | [], done, k, F, D, H, rc, F1, D1, H1, rc1, _, h => by
    cases k with
    | zero => cases h
    | succ k =>
      rw [ops_succ] at h
      unfold opsAt stepOps at h
      simp only [Out.normal.injEq] at h
      obtain ⟨rfl, rfl, rfl, rfl⟩ := h
      exact ⟨rfl, rfl, rfl⟩
  | i :: L0, done, k, F, D, H, rc, F1, D1, H1, rc1, hg, h => by
    simp only [chGood, Bool.and_eq_true] at hg
    obtain ⟨ht, hg⟩ := hg
    unfold chTake at ht
    simp only [chOps]
    unfold opsAt at h
    cases ho : nth i a.toList with
    | none => rw [ho] at ht; cases ht
    | some o =>
      rw [ho] at ht h
      simp only [Bool.and_eq_true] at ht
      simp only at h
      obtain ⟨⟨_, t3⟩, t4⟩ := ht
      have hc : floP o = true ∨ heapP o = true := by
        cases hf : floP o with
        | true => exact .inl rfl
        | false =>
          rw [hf] at t4
          simp only [Bool.and_eq_true] at t4
          exact .inr t4.1
      have hgd : guardB a F o.guard = some true := by
        unfold bare at t3
        unfold guardB
        cases hg : o.guard with
        | none => rfl
        | some p => rw [hg] at t3; cases t3
      cases k with
      | zero => cases h
      | succ k =>
        rw [ops_succ] at h
        unfold stepOps at h
        simp only [hgd] at h
        rw [stepOp_plain (plain_ch hc)] at h
        cases hx : xop P (F.ev P) H o with
        | none => rw [hx] at h; cases h
        | some p =>
          obtain ⟨v, H2⟩ := p
          rw [hx] at h
          simp only [chOp_of hc hx]
          simp only [soHeap, soThen] at h ⊢
          unfold soNext at h
          unfold dput
          cases hd : o.dst with
          | none =>
            rw [hd] at h
            simp only at h ⊢
            exact chOps_run L0 _ k F D H2 rc F1 D1 H1 rc1 hg h
          | some d =>
            rw [hd] at h
            simp only at h ⊢
            split at h
            · cases h
            · rename_i hb

              exact chOps_run L0 _ k _ D H2 rc F1 D1 H1 rc1 hg h

/-- A drawn region with slices. -/
theorem J.drawC (L0 : List Nat) {id : Nat} {a : Array Oper} (hf : P.follows .mixedOrders = true) (ho : orderly a = true) (hc : chainOf a = some L0) {l : List Oper} (e : opsAt a L0 = l)
    (h : J P hk n (fun E' D' M' L' rc' m => m = .ret ∧ D' = D ∧ rc' = rc ∧ J P hk n Q K E' D M' L' rc) [.ops a l] E D M L rc) : J P hk n Q (.code (.region id a true) :: K) E D M L rc := by
  subst e
  have hg : chGood a [] L0 = true := by
    unfold chainOf at hc
    split at hc
    · cases hc
    · unfold chainIf at hc
      split at hc
      · rename_i hg
        cases hc
        simp only [Bool.and_eq_true] at hg
        exact hg.1.1.1
      · cases hc
  intro F H ha hs
  obtain ⟨k, F1, H1, E1, M1, L1, r1, a1, a2, a3, a4, hj⟩ := J.opsRun (R := fun E' M' L' => J P hk n Q K E' D M' L' rc) h ha hs
  obtain ⟨c1, _, _⟩ := chOps_run L0 [] k F D H rc F1 D H1 rc hg r1
  obtain ⟨out, f1, f2⟩ := hj F1 H1 a1 a2
  refine ⟨out, .go ⟨0 + 1, ?_⟩ f1, f2.after a3 a4⟩
  rw [code_succ]
  show stepDraw P (run P hk 0) n a F D H rc = _
  unfold stepDraw
  simp only [hf, ho, hc, c1]
/-- What a slice of a row of one's own holds. -/
inductive SrcX (L : List Seg) {α : Type} (e : El α) : Value → List α → Prop where
  | off {id cells u k o m c} {xs : List α} : At L id (.row cells u k) → isDead k = false → takeX (xs.length * e.sz) (cells.drop o) = some (xs.flatMap e.enc) → m = xs.length → SrcX L e (.slice (some ⟨id, o, none⟩) m c) xs
  | none {c} : SrcX L e (.slice none 0 c) []
  | emp {p c} : SrcX L e (.slice (some p) 0 c) []
theorem SrcX.there {L : List Seg} {s : Seg} {α : Type} {e : El α} {v : Value} {xs : List α} (h : SrcX L e v xs) : SrcX (s :: L) e v xs := by
  cases h with
  | off h1 h2 h3 h4 => exact .off (.there h1) h2 h3 h4
  | none => exact .none
  | emp => exact .emp
theorem SrcX.ok {M : Imm} {L : List Seg} {H : Heap} (hs : Sat M L.flatten H) {α : Type} {e : El α} {v : Value} {xs : List α} (h : SrcX L e v xs) : xnew H e.sz v = some (xs.length, xs.flatMap e.enc) ∧ isStr v = false := by
  cases h with
  | off h1 h2 h3 h4 =>
    subst h4
    refine ⟨xnew_of ?_, rfl⟩
    unfold xcells
    simp only [hs.at h1, h2, h3]
  | none => exact ⟨rfl, rfl⟩
  | emp => exact ⟨rfl, rfl⟩

section
variable {T : TT} {a : Array Oper} {rest : List Oper}

theorem bnd_of {h m : Nat} (k : IntKind) (hm : h ≤ m) : xbound (.int k (h : Int)) m = some h := by
  unfold xbound
  have : (decide (0 ≤ (h : Int)) && decide ((h : Int) ≤ (m : Int))) = true := by simp; omega
  simp only [this, Int.toNat_natCast]

theorem Spl.at_ {L A B : List Seg} {s : Seg} (h : Spl L A s B) : ∀ {id o}, s = [(id, o)] → At L id o := by
  induction h with
  | here => rintro id o rfl; exact .here
  | there _ ih => intro id o h; exact .there (ih h)

/-- x[:h:h] -/
theorem J.slHi (hT : TOk P T) {d x hi mx t ty pos af e sz0 b0 g0 z0 tk sz tb ag z} {h m : Nat} {α : Type} {el : El α} {s : Seg} {A B : List Seg} {l : List α} {k1 k2 : IntKind} (hd : dstOk n (some d) = true) (hx : E.ev P x = some (.slice (segA s) m (segC s))) (hh : E.ev P hi = some (.int k1 (h : Int))) (hm : E.ev P mx = some (.int k2 (h : Int)))
    (ht : T.get t = some ⟨.slice e, sz0, b0, g0, z0⟩) (he : T.get e = some ⟨tk, sz, tb, ag, z⟩) (h1 : Nat.ble 1 sz = true) (ho : Own e el s l) (hp : Spl L A s B) (hsz : ∀ x, (el.enc x).length = el.sz) (hbe : Nat.beq el.sz sz = true) (hml : m = l.length) (hle : h ≤ l.length) (hbd : l.length ≤ 1099511627776)
    (hj : J P hk n Q (.ops a rest :: K) ((d, .slice (segA s) h h) :: E) D M L rc) : J P hk n Q (.ops a (⟨some d, .slice t x none (some hi) (some mx), ty, pos, af, none⟩ :: rest) :: K) E D M L rc := by
  subst hml
  have hbe := Nat.eq_of_beq_eq_true hbe
  subst hbe
  refine J.pure (v := .slice (segA s) h h) rfl hd (fun F H r ha hs => ?_) hj
  show soHeap (xhSlice P (F.ev P) H t x none (some hi) (some mx)) D rc = _
  unfold xhSlice
  simp only [xoptv, ha.ev hx, ha.ev hh, ha.ev hm]
  have hle2 : Nat.ble h 1099511627776 = true := Nat.ble_eq_true_of_le (by omega)
  have bb : Nat.ble h h = true := Nat.ble_eq_true_of_le (Nat.le_refl _)
  have b0 : Nat.ble 0 h = true := Nat.ble_eq_true_of_le (Nat.zero_le _)
  unfold xslice
  rw [(hT _ _ ht).slice rfl]
  rcases ho with ⟨rfl, rfl⟩ | ⟨id, rfl, hne⟩
  · have : h = 0 := by simp at hle; omega
    subst this
    simp only [segA, segC, xbounds, xboundO, List.length_nil, bnd_of _ (Nat.le_refl 0), (hT _ _ he).size]
    rfl
  · have hat := hs.at (hp.at_ rfl)
    have hb : Nat.blt OPEN OPEN = false := by
      cases h : Nat.blt OPEN OPEN with
      | false => rfl
      | true => exact absurd (blt_spec.1 h) (Nat.lt_irrefl _)
    have hoff : Nat.beq 0 ((OPEN - OPEN) * el.sz) = true := by rw [Nat.sub_self, Nat.zero_mul]; rfl
    have hlen : Nat.ble (0 + l.length * el.sz) (l.flatMap el.enc).length = true := Nat.ble_eq_true_of_le (by rw [flatMap_len hsz]; omega)
    simp only [segA, segC, hb, hat, (hT _ _ he).size, Nat.beq_refl, hoff, hlen, h1]
    simp only [xbounds, xboundO, bnd_of _ hle, bnd_of _ (Nat.le_refl h), bb, b0, hle2, Nat.sub_zero]
    cases hz : Nat.beq h 0 <;> simp only [soHeap, Addr.add, Nat.zero_mul, Nat.add_zero, if_true]

/-- x[h:] -/
theorem J.slLo (hT : TOk P T) {d x lo t ty pos af e sz0 b0 g0 z0 tk sz tb ag z} {h m : Nat} {α : Type} {el : El α} {s : Seg} {A B : List Seg} {l : List α} {k1 : IntKind} (hd : dstOk n (some d) = true) (hx : E.ev P x = some (.slice (segA s) m (segC s))) (hh : E.ev P lo = some (.int k1 (h : Int)))
    (ht : T.get t = some ⟨.slice e, sz0, b0, g0, z0⟩) (he : T.get e = some ⟨tk, sz, tb, ag, z⟩) (h1 : Nat.ble 1 sz = true) (ho : Own e el s l) (hp : Spl L A s B) (hsz : ∀ x, (el.enc x).length = el.sz) (hbe : Nat.beq el.sz sz = true) (hml : m = l.length) (hle : h ≤ l.length)
    (hj : ∀ v, SrcX L el v (l.drop h) → J P hk n Q (.ops a rest :: K) ((d, v) :: E) D M L rc) : J P hk n Q (.ops a (⟨some d, .slice t x (some lo) none none, ty, pos, af, none⟩ :: rest) :: K) E D M L rc := by
  subst hml
  have hbe := Nat.eq_of_beq_eq_true hbe
  subst hbe
  refine J.op (D' := D) (rc' := rc) (fun u L' => SrcX L el u (l.drop h) ∧ L' = L) rfl hd (fun F H ha hs => ?_) (fun u L' h => by obtain ⟨h1, rfl⟩ := h; exact hj u h1)
  have hop : ∀ {r : Option (Value × Heap)}, xslice P H t (.slice (segA s) l.length (segC s)) (some (.int k1 (h : Int))) none none = r → stepOp P (run P hk 0) ⟨some d, .slice t x (some lo) none none, ty, pos, af, none⟩ F D H rc = soHeap r D rc := by
    rintro r rfl
    show soHeap (xhSlice P (F.ev P) H t x (some lo) none none) D rc = _
    unfold xhSlice
    simp only [xoptv, ha.ev hx, ha.ev hh]
  unfold xslice at hop
  rw [(hT _ _ ht).slice rfl] at hop
  rcases ho with ⟨rfl, rfl⟩ | ⟨id, rfl, hne⟩
  · have : h = 0 := by simp at hle; omega
    subst this
    simp only [segA, segC, xbounds, xboundO, List.length_nil, bnd_of _ (Nat.le_refl 0), (hT _ _ he).size] at hop
    exact ⟨0, .slice none 0 0, H, L, hop rfl, hs, Frm.refl _ _, .none, rfl⟩
  · have hat := hs.at (hp.at_ rfl)
    have hb : Nat.blt OPEN OPEN = false := by
      cases h : Nat.blt OPEN OPEN with
      | false => rfl
      | true => exact absurd (blt_spec.1 h) (Nat.lt_irrefl _)
    have hoff : Nat.beq 0 ((OPEN - OPEN) * el.sz) = true := by rw [Nat.sub_self, Nat.zero_mul]; rfl
    have hlen : Nat.ble (0 + l.length * el.sz) (l.flatMap el.enc).length = true := Nat.ble_eq_true_of_le (by rw [flatMap_len hsz]; omega)
    have bl : Nat.ble h l.length = true := Nat.ble_eq_true_of_le hle
    simp only [segA, segC, hb, hat, (hT _ _ he).size, Nat.beq_refl, hoff, hlen, h1] at hop
    simp only [xbounds, xboundO, bnd_of _ hle, bl] at hop
    by_cases hz : h = 0
    · subst hz
      refine ⟨0, _, H, L, hop rfl, hs, Frm.refl _ _, ?_, rfl⟩
      rw [List.drop_zero]
      exact .off (hp.at_ rfl) rfl (by rw [List.drop_zero]; exact takeX_all hsz _) rfl
    · have z0 : Nat.beq h 0 = false := by
        cases h' : Nat.beq h 0 with
        | false => rfl
        | true => exact absurd (Nat.eq_of_beq_eq_true h') hz
      simp only [z0] at hop
      by_cases hlt : h < l.length
      · have bt : Nat.blt h l.length = true := blt_spec.2 hlt
        simp only [bt] at hop
        have hadd : (⟨id, 0, none⟩ : Addr).add (h * el.sz) = ⟨id, 0 + h * el.sz, none⟩ := by
          unfold Addr.add
          split
          · rename_i e; rw [e]
          · rfl
        refine ⟨0, .slice (some ((⟨id, 0, none⟩ : Addr).add (h * el.sz))) (l.length - h) (OPEN + h), H, L, hop rfl, hs, Frm.refl _ _, ?_, rfl⟩
        rw [hadd]
        refine SrcX.off (L := L) (e := el) (xs := l.drop h) (id := id) (o := 0 + h * el.sz) (m := l.length - h) (c := OPEN + h) (hp.at_ rfl) rfl ?_ List.length_drop.symm
        rw [Nat.zero_add]
        have e1 : (l.flatMap el.enc).drop (h * el.sz) = (l.drop h).flatMap el.enc := by
          rw [flatMap_split el.enc l h, List.drop_left' (by rw [flatMap_len hsz, List.length_take]; congr 1; omega)]
        rw [e1]
        exact takeX_all hsz _
      · have bt : Nat.blt h l.length = false := by
          cases h' : Nat.blt h l.length with
          | false => rfl
          | true => exact absurd (blt_spec.1 h') hlt
        simp only [bt] at hop
        have hd0 : l.drop h = [] := List.drop_eq_nil_of_le (by omega)
        refine ⟨0, _, ⟨H.t, H.next + 1⟩, L, hop rfl, ⟨fun i o hi => Nat.lt_succ_of_lt (hs.wf i o hi), hs.imm, hs.nd, hs.own, hs.apart⟩, ⟨Nat.le_succ _, fun i o hi hn => ?_⟩, ?_, rfl⟩
        · obtain ⟨y1, y2⟩ := (Frm.refl L.flatten H).keep i o hi hn
          exact ⟨y1, y2⟩
        · rw [hd0]; exact .emp

/-- append([]t{..}, x..), the row one's own, x such a slice: a source again. -/
theorem J.appLit (hT : TOk P T) {d x y st xt ty pos af e sz0 b0 g0 z0 tk sz tb ag z v id t' kd m} {xi : TI} {α : Type} {el : El α} {l xs : List α} (hd : dstOk n (some d) = true) (hx : E.ev P x = some (.slice (some ⟨id, 0, none⟩) m m)) (hy : E.ev P y = some v)
    (ht : T.get st = some ⟨.slice e, sz0, b0, g0, z0⟩) (he : T.get e = some ⟨tk, sz, tb, ag, z⟩) (hxt : T.get xt = some xi) (hxk : (match xi.k with | .slice _ => true | .str => true | _ => false) = true) (h1 : Nat.ble 1 sz = true) (htb : Nat.ble tb 4096 = true) (hsz : ∀ x, (el.enc x).length = el.sz) (hbe : Nat.beq el.sz sz = true)
    (hat : At L id (.row (l.flatMap el.enc) t' kd)) (hdd : isDead kd = false) (hm : m = l.length) (hsrc : SrcX L el v xs) (hbd : l.length + xs.length ≤ 1073741824)
    (hj : ∀ (s' : Seg) w, SrcX (s' :: L) el w (l ++ xs) → J P hk n Q (.ops a rest :: K) ((d, w) :: E) D M (s' :: L) rc) : J P hk n Q (.ops a (⟨some d, .call ⟨.builtin .append, #[x, y], #[st, xt]⟩, ty, pos, af, none⟩ :: rest) :: K) E D M L rc := by
  subst hm
  have hbe := Nat.eq_of_beq_eq_true hbe
  subst hbe
  refine J.op (D' := D) (rc' := rc) (fun w L' => ∃ s', SrcX (s' :: L) el w (l ++ xs) ∧ L' = s' :: L) rfl hd (fun F H ha hs => ?_) (fun w L' h => by obtain ⟨s', h1, rfl⟩ := h; exact hj s' w h1)
  obtain ⟨h3, h4⟩ := hsrc.ok hs
  obtain ⟨w, L', H', p0, p2, p3, p4⟩ := append_cap hs (t := e) (e := el) (xs := xs) hsz hat hdd (by omega)
  have hop : stepOp P (run P hk 0) ⟨some d, .call ⟨.builtin .append, #[x, y], #[st, xt]⟩, ty, pos, af, none⟩ F D H rc = .val w D H' rc := by
    show soHeap (xhAppend P (F.ev P) H #[x, y] #[st, xt]) D rc = _
    unfold xhAppend
    have hxl : xlist (F.ev P) (#[x, y] : Array Operand).toList = some [.slice (some ⟨id, 0, none⟩) l.length l.length, v] := by simp only [xlist, ha.ev hx, ha.ev hy]
    rw [hxl]
    simp only
    rw [append_at hT ht he hxt hxk h1 htb h3 (by rw [h4]; rfl) (by simp only [sliceLen]; rw [Nat.ble_eq]; omega), p2]; rfl
  rcases p0 with ⟨rfl, rfl, rfl⟩ | ⟨hne, s', ho, rfl, rfl⟩
  · refine ⟨0, _, H', [] :: L', hop, by simpa using p3, by simpa using p4, [], ?_, rfl⟩
    rw [List.append_nil]
    exact .off (.there hat) hdd (by rw [List.drop_zero]; exact takeX_all hsz _) rfl
  · refine ⟨0, _, H', s' :: L, hop, p3, p4, s', ?_, rfl⟩
    rcases ho with ⟨rfl, hnil⟩ | ⟨id2, rfl, _⟩
    · rw [hnil]; exact .none
    · exact .off .here rfl (by rw [List.drop_zero]; exact takeX_all hsz _) rfl

/-- append(x[:h:h], y..): a new row. -/
theorem J.appHi (hT : TOk P T) {d x y st xt ty pos af e sz0 b0 g0 z0 tk sz tb ag z v} {h : Nat} {xi : TI} {α : Type} {el : El α} {s : Seg} {A B : List Seg} {l xs : List α} (hd : dstOk n (some d) = true) (hx : E.ev P x = some (.slice (segA s) h h)) (hy : E.ev P y = some v)
    (ht : T.get st = some ⟨.slice e, sz0, b0, g0, z0⟩) (he : T.get e = some ⟨tk, sz, tb, ag, z⟩) (hxt : T.get xt = some xi) (hxk : (match xi.k with | .slice _ => true | .str => true | _ => false) = true) (h1 : Nat.ble 1 sz = true) (htb : Nat.ble tb 4096 = true) (hsz : ∀ x, (el.enc x).length = el.sz) (hbe : Nat.beq el.sz sz = true)
    (ho : Own e el s l) (hp : Spl L A s B) (hle : h ≤ l.length) (hsrc : SrcX L el v xs) (hne : xs ≠ []) (hbd : l.length + xs.length ≤ 1073741824)
    (hj : ∀ s', Own e el s' (l.take h ++ xs) → J P hk n Q (.ops a rest :: K) ((d, .slice (segA s') (l.take h ++ xs).length (segC s')) :: E) D M (s' :: L) rc) : J P hk n Q (.ops a (⟨some d, .call ⟨.builtin .append, #[x, y], #[st, xt]⟩, ty, pos, af, none⟩ :: rest) :: K) E D M L rc := by
  have hbe := Nat.eq_of_beq_eq_true hbe
  subst hbe
  refine J.op (D' := D) (rc' := rc) (fun w L' => ∃ s', Own e el s' (l.take h ++ xs) ∧ w = .slice (segA s') (l.take h ++ xs).length (segC s') ∧ L' = s' :: L) rfl hd (fun F H ha hs => ?_) (fun w L' h => by obtain ⟨s', h1, rfl, rfl⟩ := h; exact hj s' h1)
  obtain ⟨h3, h4⟩ := hsrc.ok hs
  have hpos : 0 < xs.length := by cases xs with | nil => exact absurd rfl hne | cons => simp
  have hgo : ∀ {w H'}, xappendAt H e el.sz (.slice (segA s) h h) xs.length (xs.flatMap el.enc) = some (w, H') → stepOp P (run P hk 0) ⟨some d, .call ⟨.builtin .append, #[x, y], #[st, xt]⟩, ty, pos, af, none⟩ F D H rc = .val w D H' rc := by
    intro w H' p2
    show soHeap (xhAppend P (F.ev P) H #[x, y] #[st, xt]) D rc = _
    unfold xhAppend
    have hxl : xlist (F.ev P) (#[x, y] : Array Operand).toList = some [.slice (segA s) h h, v] := by simp only [xlist, ha.ev hx, ha.ev hy]
    rw [hxl]
    simp only
    rw [append_at hT ht he hxt hxk h1 htb h3 (by rw [h4]; rfl) (by simp only [sliceLen]; rw [Nat.ble_eq]; omega), p2]; rfl
  have hlt : (l.take h).length = h := by rw [List.length_take]; omega
  obtain ⟨s', g1, g2, g3, g4⟩ := grow_new hs (t := e) (e := el) (l := l.take h ++ xs) (by cases xs with | nil => exact absurd rfl hne | cons => simp)
  refine ⟨0, _, _, s' :: L, hgo ?_, g3, g4, s', g1, rfl, rfl⟩
  rw [← g2]
  have hnb : Nat.ble (h + xs.length) h = false := by
    cases h' : Nat.ble (h + xs.length) h with
    | false => rfl
    | true => have := Nat.le_of_ble_eq_true h'; omega
  rcases ho with ⟨rfl, rfl⟩ | ⟨id, rfl, hne2⟩
  · have : h = 0 := by simp at hle; omega
    subst this
    unfold xappendAt
    simp only [segA, hnb, Nat.beq_refl, List.take_nil, List.nil_append]
  · have hat := hs.at (hp.at_ rfl)
    have hop : Nat.blt h OPEN = true := blt_spec.2 (by unfold OPEN; omega)
    have hxc : xcells H ⟨id, 0, none⟩ (h * el.sz) = some ((l.take h).flatMap el.enc) := by
      unfold xcells
      simp only [hat, isDead, List.drop_zero]
      rw [flatMap_split el.enc l h, takeX_of _ _ (by rw [List.length_append, flatMap_len hsz, hlt]; omega), List.take_left' (by rw [flatMap_len hsz, hlt])]
    unfold xappendAt
    simp only [segA, hop, hnb, hxc, List.length_append, List.flatMap_append, hlt]
end
end
end
end Go.Proofs.YtibeinbfhhoeiaaGreatDoor.Ab

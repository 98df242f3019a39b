/- The abstract interpreter is sound, 1: what its state says of the machine's; the steps of an operation. The abstract interpreter is sound, 2: operations. The abstract interpreter is sound, 3: calls, defers, panics, recover, channels; every operation. The abstract interpreter is sound, 4: regions, code, calls. The abstract interpreter is sound, 5: calls, deferred calls, and the whole. -/
import Derived.Test.YtibeinbfhhoeiaaGreatDoorZA3
import Derived.Conc.LoneSelect
namespace Go.Proofs.YtibeinbfhhoeiaaGreatDoor.Ab
open Go Go.Conc
noncomputable section

theorem Stab.ren_eq {n : Nat} {v : Value} (h : Stab n v) {σ σ' : Sig} (hs : ∀ i, i < n → σ i = σ' i) : ren σ v = ren σ' v := h σ σ' hs

/-- The callers, while a deferred call runs. -/
def csOf (σ : Sig) (base : List Frame) : RC → List Frame
  | .norm => base
  | .ret => match base with
    | c :: l => { c with mode := .returning } :: l
    | [] => []
  | .pan v r => match base with
    | c :: l => { c with mode := .panicking [{ v := ren σ v, recovered := r }] } :: l
    | [] => []

def modeOf (σ : Sig) : RC → FrameMode
  | .norm => .run
  | .ret => .returning
  | .pan v r => .panicking [{ v := ren σ v, recovered := r }]

def DefRel (σ : Sig) (x : FuncId × List Value) (d : Deferred) : Prop := ∃ cap, d.target = .fn (.func x.1) cap ∧ d.args ++ cap = ⟨x.2.map (ren σ)⟩

inductive DRel (σ : Sig) : Dl → List Deferred → Prop where
  | nil : DRel σ [] []
  | cons {x d D ds} : DefRel σ x d → DRel σ D ds → DRel σ (x :: D) (d :: ds)

def RcStab (m : Nat) : RC → Prop
  | .pan v _ => Stab m v
  | _ => True

/-- What the abstract state says of the machine's. -/
structure Fine (P : Program) (b : Frame) (base : List Frame) (σ : Sig) (n : Nat) (F : Fr) (D : Dl) (H : Heap) (rc : RC) (a : Act) (w : World) : Prop where
  size : a.tmps.size = n
  get : ∀ t v, F.get t = some v → a.tmps[t]? = some (ren σ v)
  fst : ∀ t v, F.get t = some v → Stab H.next v
  defs : DRel σ D a.defers
  dst : ∀ x ∈ D, ∀ v ∈ x.2, Stab H.next v
  rep : Rep P σ H w
  rcs : RcStab H.next rc
  kind : (b.kind = .normal ∨ b.kind = .deferred) ∧ b.roundOf = none
  rck : rc ≠ .norm → b.kind = .deferred ∧ base ≠ []

theorem map_ren {m : Nat} {l : List Value} (h : ∀ v ∈ l, Stab m v) {σ σ' : Sig} (hs : ∀ i, i < m → σ i = σ' i) : l.map (ren σ) = l.map (ren σ') :=
  List.map_congr_left fun v hv => (h v hv).ren_eq hs

theorem DRel.move {m : Nat} {σ σ' : Sig} (hs : ∀ i, i < m → σ i = σ' i) : ∀ {D : Dl} {ds : List Deferred}, DRel σ D ds → (∀ x ∈ D, ∀ v ∈ x.2, Stab m v) → DRel σ' D ds := by
  intro D ds h
  induction h with
  | nil => intro _; exact .nil
  | cons h1 _ ih =>
    intro hst
    obtain ⟨cap, h1, h2⟩ := h1
    refine .cons ⟨cap, h1, ?_⟩ (ih fun x hx => hst x (.tail _ hx))
    rw [h2, map_ren (hst _ (.head _)) hs]

theorem RcStab.mono {m m' : Nat} {rc : RC} (h : RcStab m rc) (hm : m ≤ m') : RcStab m' rc := by
  cases rc with
  | pan v r => exact Stab.mono h hm
  | _ => trivial

theorem csOf_move {m : Nat} {σ σ' : Sig} {rc : RC} (h : RcStab m rc) (hs : ∀ i, i < m → σ i = σ' i) (base : List Frame) : csOf σ base rc = csOf σ' base rc := by
  cases rc with
  | pan v r => cases base with
    | nil => rfl
    | cons c l => simp only [csOf]; rw [Stab.ren_eq h hs]
  | _ => rfl

/-- The heap turned, the frame did not. -/
theorem Fine.moved {P : Program} {b : Frame} {base : List Frame} {σ σ' : Sig} {n : Nat} {F : Fr} {D : Dl} {H H' : Heap} {rc : RC} {a : Act} {w w' : World}
    (h : Fine P b base σ n F D H rc a w) (hs : Stp σ H w σ' H' w') (hR : Rep P σ' H' w') : Fine P b base σ' n F D H' rc a w' where
  size := h.size
  get t v hv := by rw [h.get t v hv, (h.fst t v hv).ren_eq hs.ext]
  fst t v hv := (h.fst t v hv).mono hs.nxt
  defs := h.defs.move hs.ext h.dst
  dst x hx v hv := (h.dst x hx v hv).mono hs.nxt
  rep := hR
  rcs := h.rcs.mono hs.nxt
  kind := h.kind
  rck := h.rck

theorem Fine.put {P : Program} {b : Frame} {base : List Frame} {σ : Sig} {n : Nat} {F : Fr} {D : Dl} {H : Heap} {rc : RC} {a : Act} {w : World}
    (h : Fine P b base σ n F D H rc a w) {d : Tmp} {v : Value} (hd : d < n) (hv : Stab H.next v) : Fine P b base σ n (F.set d v) D H rc (a.put (some d) (ren σ v)) w where
  size := by simp [Act.put, h.size]
  get t u hu := by
    rw [Tr.get_set] at hu
    simp only [Act.put]
    by_cases e : d = t
    · subst e
      rw [if_pos rfl] at hu
      cases hu
      rw [Array.getElem?_setIfInBounds_self_of_lt (by rw [h.size]; exact hd)]
    · rw [if_neg e] at hu
      rw [Array.getElem?_setIfInBounds_ne e]
      exact h.get t u hu
  fst t u hu := by
    rw [Tr.get_set] at hu
    by_cases e : d = t
    · rw [if_pos e] at hu; cases hu; exact hv
    · rw [if_neg e] at hu; exact h.fst t u hu
  defs := h.defs
  dst := h.dst
  rep := h.rep
  rcs := h.rcs
  kind := h.kind
  rck := h.rck

theorem Fine.ev {P : Program} {b : Frame} {base : List Frame} {σ : Sig} {n : Nat} {F : Fr} {D : Dl} {H : Heap} {rc : RC} {a : Act} {w : World}
    (h : Fine P b base σ n F D H rc a w) : ∀ x y, (F.ev P) x = some y → a.eval x = ren σ y := by
  intro x y hxy
  cases x with
  | tmp t =>
    simp only [Fr.ev] at hxy
    simp [Act.eval, h.get t y hxy]
  | const v =>
    simp only [Fr.ev] at hxy
    split at hxy
    · rename_i hc
      cases hxy
      simp [Act.eval, ren_clo σ y hc]
    · cases hxy
  | func f => simp only [Fr.ev, Option.some.injEq] at hxy; subst hxy; simp [Act.eval, ren, renArr, renL]
  | global g =>
    simp only [Fr.ev] at hxy
    split at hxy
    · cases hxy
    · rename_i hb
      cases hxy
      have hg : g < P.globals.size := by
        rcases Nat.lt_or_ge g P.globals.size with h' | h'
        · exact h'
        · rw [Nat.ble_eq_true_of_le h'] at hb; cases hb
      simp [Act.eval, ren, renAddr, h.rep.glob.2 g hg]

theorem Fine.evst {P : Program} {b : Frame} {base : List Frame} {σ : Sig} {n : Nat} {F : Fr} {D : Dl} {H : Heap} {rc : RC} {a : Act} {w : World}
    (h : Fine P b base σ n F D H rc a w) : ∀ x y, (F.ev P) x = some y → Stab H.next y := by
  intro x y hxy
  cases x with
  | tmp t => exact h.fst t y hxy
  | const v =>
    simp only [Fr.ev] at hxy
    split at hxy
    · rename_i hc; cases hxy; exact .clo hc
    · cases hxy
  | func f => simp only [Fr.ev, Option.some.injEq] at hxy; subst hxy; exact .clo rfl
  | global g =>
    simp only [Fr.ev] at hxy
    split at hxy
    · cases hxy
    · rename_i hb
      cases hxy
      have hg : g < P.globals.size := by
        rcases Nat.lt_or_ge g P.globals.size with h' | h'
        · exact h'
        · rw [Nat.ble_eq_true_of_le h'] at hb; cases hb
      exact stab_ptr (Nat.lt_of_lt_of_le hg h.rep.glob.1) 0

theorem nth_eq {α : Type} : ∀ (i : Nat) (l : List α), nth i l = l[i]?
  | _, [] => by simp [nth]
  | 0, a :: l => by simp [nth]
  | i + 1, a :: l => by simp [nth, nth_eq i l]

theorem guard_spec {P : Program} {b : Frame} {base : List Frame} {σ : Sig} {n : Nat} {F : Fr} {D : Dl} {H : Heap} {rc : RC} {a : Act} {w : World}
    (h : Fine P b base σ n F D H rc a w) {ops : Array Oper} {o : Oper} {t : Bool} (hg : guardB ops F o.guard = some t) : Region.wanted o (yielded ops a.tmps) = t := by
  unfold Region.wanted
  unfold guardB at hg
  split at hg
  · rename_i e; simp only [Option.some.injEq] at hg; rw [e]; exact hg
  · rename_i j want e
    rw [e]
    simp only
    split at hg
    · rename_i o' ho
      split at hg
      · rename_i d hd
        rw [nth_eq] at ho
        have ho' : ops[j]? = some o' := by simpa using ho
        split at hg
        · rename_i v hv
          have := h.get _ _ hv
          simp only [ren] at this
          simp only [Option.some.injEq] at hg
          simp only [yielded, ho', Option.bind_some, hd, this]
          rw [← hg]
          cases v <;> cases want <;> rfl
        · rename_i v hne hv
          have := h.get _ _ hv
          simp only [Option.some.injEq] at hg
          simp only [yielded, ho', Option.bind_some, hd, this]
          subst hg
          cases v <;> first | exact absurd rfl (hne _) | skip
          all_goals first | rfl | (rename_i x; cases x <;> rfl) | (rename_i x y z; cases x <;> rfl)
        · cases hg
      · cases hg
    · cases hg

/- ## an operation's steps -/
section
variable {P : Program} {b : Frame} {a : Act} {k : List Item} {cs : List Frame} {w w' : World} {ops : Array Oper} {i : Nat} {rest : List Nat} {o : Oper}

theorem go_value {v : Value} (ho : ops[i]? = some o) (hw : Region.wanted o (yielded ops a.tmps) = true) (hr : (execOp a.eval o).run P w = .ok (.value v) w') :
    Steps P (lone (b.at a (.inRegion ops (i :: rest) :: k)) cs w) (lone (b.at (a.put o.dst v) (.inRegion ops rest :: k)) cs w') := by
  have hfin : (b.at a (.inRegion ops (i :: rest) :: k)).finish v = b.at (a.put o.dst v) (.inRegion ops rest :: k) := by rw [Frame.finish_at, ho]; rfl
  refine .one (step_lone_go ?_)
  rw [stepG_op ho hw, ← hfin]; simp [stepG.apply, hr]

theorem go_skip (ho : ops[i]? = some o) (hw : Region.wanted o (yielded ops a.tmps) = true) (hr : (execOp a.eval o).run P w = .ok .skip w') :
    Steps P (lone (b.at a (.inRegion ops (i :: rest) :: k)) cs w) (lone (b.at (a.put o.dst undef) (.inRegion ops rest :: k)) cs w') := by
  have hfin : (b.at a (.inRegion ops (i :: rest) :: k)).finish undef = b.at (a.put o.dst undef) (.inRegion ops rest :: k) := by rw [Frame.finish_at, ho]; rfl
  refine .one (step_lone_go ?_)
  rw [stepG_op ho hw, ← hfin]; simp [stepG.apply, hr]

theorem go_defer {d : Deferred} (ho : ops[i]? = some o) (hw : Region.wanted o (yielded ops a.tmps) = true) (hr : (execOp a.eval o).run P w = .ok (.defer d) w') :
    Steps P (lone (b.at a (.inRegion ops (i :: rest) :: k)) cs w) (lone (b.at ({ a with defers := d :: a.defers }.put o.dst undef) (.inRegion ops rest :: k)) cs w') := by
  refine .one (step_lone_go ?_)
  have : ({ b.at a (.inRegion ops (i :: rest) :: k) with defers := d :: a.defers } : Frame).finish undef =
      b.at ({ a with defers := d :: a.defers }.put o.dst undef) (.inRegion ops rest :: k) := by
    have := Frame.finish_at b { a with defers := d :: a.defers } ops i rest k undef
    rw [ho] at this; exact this
  rw [stepG_op ho hw]; simp only [stepG.apply, Sem.runT_eq, hr, GStep.bare_after]
  exact congrArg (fun fr => GStep.go { frame := fr, callers := cs, status := .running, dying := none } w') this

theorem go_panic {v : Value} (ho : ops[i]? = some o) (hw : Region.wanted o (yielded ops a.tmps) = true) (hr : (execOp a.eval o).run P w = .halt (.panic v) w') :
    Steps P (lone (b.at a (.inRegion ops (i :: rest) :: k)) cs w) (lone { b.at a (.inRegion ops (i :: rest) :: k) with mode := .panicking [{ v, recovered := false }] } cs w') := by
  refine .one (step_lone_go ?_)
  rw [stepG_op ho hw, ← Frame.raise_at]; simp [stepG.apply, hr]

theorem go_enter {f : FuncId} {args : Array Value} (ho : ops[i]? = some o) (hw : Region.wanted o (yielded ops a.tmps) = true) (hr : (execOp a.eval o).run P w = .ok (.enter f args) w') :
    step P (lone (b.at a (.inRegion ops (i :: rest) :: k)) cs w) = .next (lone (Frame.enter P f args .normal) (b.at a (.inRegion ops (i :: rest) :: k) :: cs) w') :=
  step_lone_go (by rw [stepG_op ho hw]; simp [stepG.apply, hr, Frame.at])

theorem go_ret {f : FuncId} {args : Array Value} (ho : ops[i]? = some o) (hw : Region.wanted o (yielded ops a.tmps) = true) (hr : (execOp a.eval o).run P w = .ok (.enter f args) w)
    {v : Value} {R : World → Prop} (hc : Calls P f args w fun e w' => e = .returned v ∧ R w') :
    ∃ w', R w' ∧ Steps P (lone (b.at a (.inRegion ops (i :: rest) :: k)) cs w) (lone (b.at (a.put o.dst v) (.inRegion ops rest :: k)) cs w') := by
  obtain ⟨e, w'', fr, ⟨rfl, hR⟩, hsteps, _, hleave⟩ := hc (b.at a (.inRegion ops (i :: rest) :: k) :: cs)
  have hfin : (b.at a (.inRegion ops (i :: rest) :: k)).finish v = b.at (a.put o.dst v) (.inRegion ops rest :: k) := by rw [Frame.finish_at, ho]; rfl
  refine ⟨w'', hR, .head (go_enter ho hw hr) (Steps.trans hsteps (.one ?_))⟩
  rw [← hfin]; exact step_leave_returned hleave
end

end
end Go.Proofs.YtibeinbfhhoeiaaGreatDoor.Ab

namespace Go.Proofs.YtibeinbfhhoeiaaGreatDoor.Ab
open Go Go.Conc
noncomputable section

/-- What is asked of calls, one level down. -/
def SoundCall (P : Program) (r : Rec) : Prop := ∀ f args H, r.call f args H ≠ .none → (enters P f).isSome ∧
  ∀ σ w, Rep P σ H w → (∀ v ∈ args, Stab H.next v) →
    (∀ v H', r.call f args H = .ret v H' → Calls P f ⟨args.map (ren σ)⟩ w fun e w' => ∃ σ', e = .returned (ren σ' v) ∧ Rep P σ' H' w' ∧ Stp σ H w σ' H' w' ∧ Stab H'.next v) ∧
    (∀ v H', r.call f args H = .panic v H' → Calls P f ⟨args.map (ren σ)⟩ w fun e w' => ∃ σ', e = .panicked [{ v := ren σ' v, recovered := false }] ∧ Rep P σ' H' w' ∧ Stp σ H w σ' H' w' ∧ Stab H'.next v)

def plainOp : Op → Bool
  | .call c => match c.callee with
    | .builtin .recover => false
    | .builtin _ => true
    | _ => false
  | .defer _ => false
  | .panic _ => false
  | .send _ _ => false
  | .select _ _ => false
  | _ => true

theorem pure_heap (X : Option Value) (D : Dl) (H : Heap) (rc : RC) : soPure X D H rc = soHeap (match X with
  | some v => some (v, H)
  | none => none) D rc := by cases X <;> rfl

theorem conv_heap (X : Option Value) (Y : Option (Value × Heap)) (D : Dl) (H : Heap) (rc : RC) : (match X with
  | some v => OpR.val v D H rc
  | none => soHeap Y D rc) = soHeap (match X with
  | some v => some (v, H)
  | none => Y) D rc := by cases X <;> rfl

theorem stepOp_plain {P : Program} {r : Rec} {o : Oper} {F : Fr} {D : Dl} {H : Heap} {rc : RC} (hp : plainOp o.op = true) :
    stepOp P r o F D H rc = soHeap (xop P (F.ev P) H o) D rc := by
  unfold stepOp
  cases hop : o.op
  case call c =>
    rw [hop] at hp
    simp only [plainOp] at hp
    simp only [opFn, soCall, xop, memOp, hop, xpure, xheap, xpCall, xhCall]
    cases hc : c.callee with
    | value f => simp [hc] at hp
    | invoke a b => simp [hc] at hp
    | builtin bu =>
      simp only
      unfold soBuiltin
      split
      · rename_i hb; simp [hc] at hp
      · cases xlist (F.ev P) c.args.toList with
        | none => rfl
        | some l => cases l <;> rfl
      · cases xlist (F.ev P) c.args.toList with
        | none => rfl
        | some l => cases l <;> rfl
      · simp only [soLen, xpCall, hc]
        exact conv_heap _ _ _ _ _
      · rw [pure_heap]
        simp only [xpCall, hc]
        split
        · rename_i v hv; simp only [hv]
        · rename_i hv
          simp only [hv]
          split
          · rename_i e; cases e; rename_i h1 h2 h3 h4; exact absurd rfl h2
          · rename_i e; cases e; rename_i h1 h2 h3 h4; exact absurd rfl h3
          · rename_i e; cases e; rename_i h1 h2 h3 h4; exact absurd rfl h4
          · rfl
  case convert s d x =>
    simp only [opFn, soConv, xop, memOp, hop, xpure, xheap]
    exact conv_heap _ _ _ _ _
  case defer c => simp [hop, plainOp] at hp
  case panic c => simp [hop, plainOp] at hp
  case send c d => simp [hop, plainOp] at hp
  case select c d => simp [hop, plainOp] at hp
  all_goals first
    | (simp only [opFn, xop, memOp, hop, xpure, xheap]; done)
    | (simp only [opFn, xop, memOp, hop, xpure, xheap]; rfl)
    | (simp only [opFn, xop, memOp, hop, xpure, xheap]; exact pure_heap _ _ _ _)

/-- Where an operation comes to. -/
def OpLands (P : Program) (b : Frame) (base : List Frame) (ops : Array Oper) (i : Nat) (rest : List Nat) (k : List Item) (o : Oper) (σ : Sig) (n : Nat) (F : Fr) (D : Dl) (H : Heap) (rc : RC) (a : Act) (w : World) : OpR → Prop
  | .none => True
  | .val v D' H' rc' => ∃ σ' a' w', Fine P b base σ' n F D' H' rc' a' w' ∧ Stp σ H w σ' H' w' ∧ Stab H'.next v ∧
      Steps P (lone (b.at a (.inRegion ops (i :: rest) :: k)) (csOf σ base rc) w) (lone (b.at (a'.put o.dst (ren σ' v)) (.inRegion ops rest :: k)) (csOf σ' base rc') w')
  | .panic v H' => ∃ σ' a' w' todo, Fine P b base σ' n F D H' rc a' w' ∧ Stp σ H w σ' H' w' ∧ Stab H'.next v ∧
      Steps P (lone (b.at a (.inRegion ops (i :: rest) :: k)) (csOf σ base rc) w) (lone { b.at a' todo with mode := .panicking [{ v := ren σ' v, recovered := false }] } (csOf σ' base rc) w')

section
variable {P : Program} {b : Frame} {base : List Frame} {σ : Sig} {n : Nat} {F : Fr} {D : Dl} {H : Heap} {rc : RC} {a : Act} {w : World} {ops : Array Oper} {i : Nat} {rest : List Nat} {k : List Item} {o : Oper}

theorem lands_heap (hF : Fine P b base σ n F D H rc a w) (ho : ops[i]? = some o) (hw : Region.wanted o (yielded ops a.tmps) = true)
    {x : Option (Value × Heap)} (hd : ∀ v H', x = some (v, H') → DoesN P σ H w (execOp a.eval o) v H') :
    OpLands P b base ops i rest k o σ n F D H rc a w (soHeap x D rc) := by
  cases x with
  | none => trivial
  | some p =>
    obtain ⟨v, H'⟩ := p
    obtain ⟨σ', w', r, hr, hv, hR, hS, hst⟩ := hd v H' rfl
    refine ⟨σ', a, w', hF.moved hS hR, hS, hst, ?_⟩
    rw [csOf_move hF.rcs hS.ext]
    rcases hv with rfl | ⟨rfl, rfl⟩
    · exact go_value ho hw hr
    · have : ren σ' undef = undef := ren_clo _ _ rfl
      rw [this]
      exact go_skip ho hw hr

theorem run_callFunc {f : FuncId} {args : Array Value} (h : (enters P f).isSome) (w : World) : (callFunc f args).run P w = .ok (.enter f args) w := by
  unfold enters at h
  split at h
  · rename_i fn hf
    split at h
    · rename_i c hb hn
      have hn' : fn.name ≠ "runtime.NumGoroutine" := by simpa using hn
      simp [callFunc, hf, hn', hb]
    · simp at h
  · simp at h

theorem callee_spec {fo : Value} {args : List Value} {f : FuncId} {l : List Value} (h : callee fo args = some (f, l)) (σ : Sig) (w : World) :
    ∃ d, (Deferred.ofValue (ren σ fo) ⟨args.map (ren σ)⟩).run P w = .ok d w ∧ DefRel σ (f, l) d ∧
      ((enters P f).isSome → (invoke d.target d.args).run P w = .ok (.enter f ⟨l.map (ren σ)⟩) w) := by
  unfold callee at h
  split at h
  · rename_i g first captured
    simp only [Option.some.injEq, Prod.mk.injEq] at h
    obtain ⟨rfl, rfl⟩ := h
    simp only [ren, Deferred.ofValue]
    have e : renArr σ first ++ ⟨args.map (ren σ)⟩ ++ renArr σ captured = ⟨(first.toList ++ args ++ captured.toList).map (ren σ)⟩ := by
      apply Array.toList_inj.1
      simp [renArr_eq]
    refine ⟨_, rfl, ⟨_, rfl, e⟩, fun he => ?_⟩
    simp only [invoke]
    rw [e]
    exact run_callFunc he w
  · cases h

theorem lands_end (hF : Fine P b base σ n F D H rc a w) (ho : ops[i]? = some o) (hw : Region.wanted o (yielded ops a.tmps) = true)
    {f : FuncId} {l : List Value} (hr : (execOp a.eval o).run P w = .ok (.enter f ⟨l.map (ren σ)⟩) w) {x : AEnd}
    (h1 : ∀ v H', x = .ret v H' → Calls P f ⟨l.map (ren σ)⟩ w fun e w' => ∃ σ', e = .returned (ren σ' v) ∧ Rep P σ' H' w' ∧ Stp σ H w σ' H' w' ∧ Stab H'.next v)
    (h2 : ∀ v H', x = .panic v H' → Calls P f ⟨l.map (ren σ)⟩ w fun e w' => ∃ σ', e = .panicked [{ v := ren σ' v, recovered := false }] ∧ Rep P σ' H' w' ∧ Stp σ H w σ' H' w' ∧ Stab H'.next v) :
    OpLands P b base ops i rest k o σ n F D H rc a w (soEnd x D rc) := by
  cases x with
  | none => trivial
  | ret v H' =>
    obtain ⟨e, w', fr, ⟨σ', rfl, hR, hS, hst⟩, hsteps, _, hleave⟩ := h1 v H' rfl (b.at a (.inRegion ops (i :: rest) :: k) :: csOf σ base rc)
    have hfin : (b.at a (.inRegion ops (i :: rest) :: k)).finish (ren σ' v) = b.at (a.put o.dst (ren σ' v)) (.inRegion ops rest :: k) := by rw [Frame.finish_at, ho]; rfl
    refine ⟨σ', a, w', hF.moved hS hR, hS, hst, ?_⟩
    rw [← csOf_move hF.rcs hS.ext]
    refine .head (go_enter ho hw hr) (Steps.trans hsteps (.one ?_))
    rw [← hfin]; exact step_leave_returned hleave
  | panic v H' =>
    obtain ⟨e, w', fr, ⟨σ', rfl, hR, hS, hst⟩, hsteps, _, hleave⟩ := h2 v H' rfl (b.at a (.inRegion ops (i :: rest) :: k) :: csOf σ base rc)
    refine ⟨σ', a, w', .inRegion ops (i :: rest) :: k, hF.moved hS hR, hS, hst, ?_⟩
    rw [← csOf_move hF.rcs hS.ext]
    refine .head (go_enter ho hw hr) (Steps.trans hsteps (.one ?_))
    rw [← Frame.raise_at]; exact step_leave_panicked hleave

end
end
end Go.Proofs.YtibeinbfhhoeiaaGreatDoor.Ab

namespace Go.Proofs.YtibeinbfhhoeiaaGreatDoor.Ab
open Go Go.Conc
noncomputable section

section
variable {P : Program} {b : Frame} {base : List Frame} {σ : Sig} {n : Nat} {F : Fr} {D : Dl} {H : Heap} {rc : RC} {a : Act} {w : World} {ops : Array Oper} {i : Nat} {rest : List Nat} {k : List Item} {o : Oper}

theorem callee_stab {m : Nat} {fo : Value} {args : List Value} {f : FuncId} {l : List Value} (h : callee fo args = some (f, l)) (h1 : Stab m fo) (h2 : ∀ v ∈ args, Stab m v) :
    ∀ v ∈ l, Stab m v := by
  unfold callee at h
  split at h
  · rename_i g first captured
    simp only [Option.some.injEq, Prod.mk.injEq] at h
    obtain ⟨rfl, rfl⟩ := h
    have hh : ∀ σ σ' : Sig, (∀ i, i < m → σ i = σ' i) → renArr σ first = renArr σ' first ∧ renArr σ captured = renArr σ' captured := fun σ σ' hs => by
      have := h1 σ σ' hs
      simp only [ren, Value.func.injEq] at this
      exact ⟨this.2.1, this.2.2⟩
    have key : ∀ arr : Array Value, (∀ σ σ' : Sig, (∀ i, i < m → σ i = σ' i) → renArr σ arr = renArr σ' arr) → ∀ v ∈ arr.toList, Stab m v := by
      intro arr ha v hv σ σ' hs
      have e := ha σ σ' hs
      simp only [renArr_eq] at e
      have e' := congrArg Array.toList e
      simp only [Array.toList_map] at e'
      obtain ⟨j, hj, rfl⟩ := List.getElem_of_mem hv
      have := congrArg (fun l => l[j]?) e'
      simp only [List.getElem?_map, List.getElem?_eq_getElem hj, Option.map_some, Option.some.injEq] at this
      exact this
    intro v hv
    rcases List.mem_append.1 hv with hv | hv
    · rcases List.mem_append.1 hv with hv | hv
      · exact key _ (fun σ σ' hs => (hh σ σ' hs).1) v hv
      · exact h2 v hv
    · exact key _ (fun σ σ' hs => (hh σ σ' hs).2) v hv
  · cases h

theorem lands_value {r : Rec} (hc : SoundCall P r) (hF : Fine P b base σ n F D H rc a w) (ho : ops[i]? = some o) (hw : Region.wanted o (yielded ops a.tmps) = true)
    {c : Call} {fo : Operand} (hop : o.op = .call c) (hcal : c.callee = .value fo) :
    OpLands P b base ops i rest k o σ n F D H rc a w (soValue r (F.ev P) fo c.args D H rc) := by
  unfold soValue
  split
  · rename_i f hf
    split
    · rename_i l hl
      cases hce : callee f l with
      | none => trivial
      | some p =>
        obtain ⟨g, l'⟩ := p
        simp only [soEnter]
        obtain ⟨d, hd, _, hinv⟩ := callee_spec (P := P) hce σ w
        by_cases hn : r.call g l' H = .none
        · rw [hn]; trivial
        · obtain ⟨hen, hcs⟩ := hc g l' H hn
          have hst : ∀ v ∈ l', Stab H.next v := callee_stab hce (hF.evst _ _ hf) (xlist_mem (fun x y h => hF.evst x y h) _ _ hl)
          obtain ⟨h1, h2⟩ := hcs σ w hF.rep hst
          refine lands_end hF ho hw ?_ h1 h2
          have eargs : c.args.map a.eval = ⟨l.map (ren σ)⟩ := by
            rw [← xlist_ren hF.ev _ _ hl, ← Array.toList_map]
          simp only [execOp, hop, resolve, hcal, eargs, hF.ev _ _ hf]
          rw [Sem.run_bind, hd]
          exact hinv hen
    · trivial
  · trivial

theorem lands_defer (hF : Fine P b base σ n F D H rc a w) (ho : ops[i]? = some o) (hw : Region.wanted o (yielded ops a.tmps) = true)
    {c : Call} (hop : o.op = .defer c) : OpLands P b base ops i rest k o σ n F D H rc a w (soDefer (F.ev P) c D H rc) := by
  unfold soDefer
  split
  · rename_i fo hcal
    split
    · rename_i f l hf hl
      split
      · rename_i x hce
        obtain ⟨g, l'⟩ := x
        obtain ⟨d, hd, hrel, _⟩ := callee_spec (P := P) hce σ w
        have hst : ∀ v ∈ l', Stab H.next v := callee_stab hce (hF.evst _ _ hf) (xlist_mem (fun x y h => hF.evst x y h) _ _ hl)
        have eargs : c.args.map a.eval = ⟨l.map (ren σ)⟩ := by
          rw [← xlist_ren hF.ev _ _ hl, ← Array.toList_map]
        have hrun : (execOp a.eval o).run P w = .ok (.defer d) w := by
          simp only [execOp, hop, resolve, hcal, eargs, hF.ev _ _ hf]
          rw [Sem.run_bind, hd]
          rfl
        refine ⟨σ, { a with defers := d :: a.defers }, w, ?_, Stp.refl _ _ _, .clo rfl, ?_⟩
        · exact { hF with
            size := hF.size
            get := hF.get
            defs := .cons hrel hF.defs
            dst := fun x hx v hv => by
              cases hx with
              | head => exact hst v hv
              | tail _ hx => exact hF.dst x hx v hv }
        · have : ren σ undef = undef := ren_clo _ _ rfl
          rw [this]
          exact go_defer ho hw hrun
      · trivial
    · trivial
  · trivial

theorem lands_panic (hF : Fine P b base σ n F D H rc a w) (ho : ops[i]? = some o) (hw : Region.wanted o (yielded ops a.tmps) = true)
    {x : Operand} (hop : o.op = .panic x) : OpLands P b base ops i rest k o σ n F D H rc a w (soPanic (F.ev P x) H) := by
  unfold soPanic
  split
  · rename_i t v hx
    have e := hF.ev _ _ hx
    refine ⟨σ, a, w, .inRegion ops (i :: rest) :: k, hF, Stp.refl _ _ _, hF.evst _ _ hx, ?_⟩
    refine go_panic ho hw ?_
    simp only [execOp, hop, e, ren, Instr.panic]
    rfl
  · trivial

theorem lands_recover (hF : Fine P b base σ n F D H rc a w) (ho : ops[i]? = some o) (hw : Region.wanted o (yielded ops a.tmps) = true)
    (hrun : ∀ w, (execOp a.eval o).run P w = .ok .recover w) : OpLands P b base ops i rest k o σ n F D H rc a w (soRecover D H rc) := by
  have hfin : ∀ v, (b.at a (.inRegion ops (i :: rest) :: k)).finish v = b.at (a.put o.dst v) (.inRegion ops rest :: k) := by
    intro v; rw [Frame.finish_at, ho]; rfl
  have hg := fun cs => stepG_op (P := P) (b := b) (k := k) (cs := cs) (w := w) (rest := rest) ho hw
  cases rc with
  | norm => trivial
  | ret =>
    obtain ⟨hk, hb⟩ := hF.rck (by simp)
    obtain ⟨c, l, rfl⟩ := List.exists_cons_of_ne_nil hb
    have htr := tryRecover_deferred (fr := b.at a (.inRegion ops (i :: rest) :: k)) hk ({ c with mode := .returning } :: l)
    have hrec : recoverD ({ c with mode := .returning } :: l) = none := rfl
    refine ⟨σ, a, w, hF, Stp.refl _ _ _, .clo rfl, .one (step_lone_go ?_)⟩
    simp only [csOf, ren]
    rw [hg, ← hfin]
    simp only [Frame.at] at htr ⊢
    simp [stepG.apply, hrun, htr, hrec]
  | pan v r =>
    obtain ⟨hk, hb⟩ := hF.rck (by simp)
    obtain ⟨c, l, rfl⟩ := List.exists_cons_of_ne_nil hb
    have htr := tryRecover_deferred (fr := b.at a (.inRegion ops (i :: rest) :: k)) hk ({ c with mode := .panicking [{ v := ren σ v, recovered := r }] } :: l)
    cases r with
    | false =>
      have hrec : recoverD ({ c with mode := .panicking [{ v := ren σ v, recovered := false }] } :: l) = some (ren σ v, { c with mode := .panicking [{ v := ren σ v, recovered := true }] } :: l) := rfl
      refine ⟨σ, a, w, { hF with rck := fun _ => ⟨hk, by simp⟩, rcs := hF.rcs }, Stp.refl _ _ _, hF.rcs, .one (step_lone_go ?_)⟩
      simp only [csOf]
      rw [hg, ← hfin]
      simp only [Frame.at] at htr ⊢
      simp [stepG.apply, hrun, htr, hrec]
    | true =>
      have hrec : recoverD ({ c with mode := .panicking [{ v := ren σ v, recovered := true }] } :: l) = none := rfl
      refine ⟨σ, a, w, hF, Stp.refl _ _ _, .clo rfl, .one (step_lone_go ?_)⟩
      simp only [csOf, ren]
      rw [hg, ← hfin]
      simp only [Frame.at] at htr ⊢
      simp [stepG.apply, hrun, htr, hrec]

theorem setChan_heap (w : World) (c cap : Nat) (buf : Array Value) (closed : Bool) (s r : Nat) (tm : Bool) :
    (w.setChan c cap buf closed s r tm).heap = w.heap.setIfInBounds c (.chan cap buf closed s r tm) := rfl

theorem chan_write (hR : Rep P σ H w) {c cap : Nat} {l l' : List Value} (hc : H.get c = some (.chan cap l)) (hst : ∀ v ∈ l', Stab H.next v) {s r : Nat} :
    Rep P σ (H.set c (.chan cap l')) (w.setChan (σ c).blk cap ⟨l'.map (ren σ)⟩ false s r false) ∧
    Stp σ H w σ (H.set c (.chan cap l')) (w.setChan (σ c).blk cap ⟨l'.map (ren σ)⟩ false s r false) := by
  have hlt := (hR.obj c _ hc).lt_size rfl
  refine hR.write hc rfl rfl hst (fun bl hb => ?_) (by simp [setChan_heap]) rfl rfl rfl ⟨s, r, ?_⟩
  · rw [setChan_heap, Array.getElem?_setIfInBounds_ne (Ne.symm hb)]
  · rw [setChan_heap, Array.getElem?_setIfInBounds_self_of_lt hlt]

theorem lands_send (hF : Fine P b base σ n F D H rc a w) (ho : ops[i]? = some o) (hw : Region.wanted o (yielded ops a.tmps) = true)
    {c x : Operand} (hop : o.op = .send c x) : OpLands P b base ops i rest k o σ n F D H rc a w (soSend (F.ev P) c x D H rc) := by
  unfold soSend
  split
  · rename_i u v hu hv
    cases hx : xsend H u v with
    | none => trivial
    | some H' =>
      unfold xsend at hx
      split at hx
      · rename_i ch
        split at hx
        · rename_i cap l hch
          split at hx
          · rename_i hlt
            simp only [Option.some.injEq] at hx
            subst hx
            have hlt' : l.length < cap := Nat.blt_eq ▸ hlt
            obtain ⟨s, r, hobj⟩ := hF.rep.obj ch _ hch
            have hst : ∀ y ∈ l ++ [v], Stab H.next y := by
              intro y hy
              rcases List.mem_append.1 hy with hy | hy
              · exact hF.rep.stab ch _ hch y hy
              · simp only [List.mem_singleton] at hy; subst hy; exact hF.evst _ _ hv
            obtain ⟨hR', hS⟩ := chan_write (s := s + 1) (r := r) hF.rep hch hst
            refine ⟨σ, a, _, hF.moved hS hR', hS, .clo rfl, ?_⟩
            have hrun : (execOp a.eval o).run P w = .ok (.comm #[scase (σ ch).blk (ren σ v) (.tuple #[])] true .send) w := by
              simp only [execOp, hop, hF.ev _ _ hu, hF.ev _ _ hv, ren]
              rfl
            have hk : b.kind ≠ .early := by rcases hF.kind.1 with h | h <;> simp [h]
            have hcomm := stepG_comm (P := P) (main := true) (b := b) (a := a) (k := k) (cs := csOf σ base rc) (rest := rest) ho hw hk hrun
            have hstep := step_lone_send_room hcomm hobj (by simpa using hlt')
            have hfin : (b.at a (.inRegion ops (i :: rest) :: k)).finish undef = b.at (a.put o.dst undef) (.inRegion ops rest :: k) := by rw [Frame.finish_at, ho]; rfl
            have e : ren σ undef = undef := ren_clo _ _ rfl
            rw [e, lone_eq_solo, lone_eq_solo, ← hfin]
            have e2 : (⟨l.map (ren σ)⟩ : Array Value).push (ren σ v) = ⟨(l ++ [v]).map (ren σ)⟩ := by simp
            rw [e2] at hstep
            exact .one hstep
          · simp at hx
        · simp at hx
      · simp at hx
  · trivial

theorem lands_select (hF : Fine P b base σ n F D H rc a w) (ho : ops[i]? = some o) (hw : Region.wanted o (yielded ops a.tmps) = true)
    {cases : Array SelectCase} {blocking : Bool} (hop : o.op = .select cases blocking) :
    OpLands P b base ops i rest k o σ n F D H rc a w (soHeap (xselect1 P (F.ev P) H cases.toList blocking) D rc) := by
  cases hx : xselect1 P (F.ev P) H cases.toList blocking with
  | none => trivial
  | some p =>
    unfold xselect1 at hx
    split at hx
    · rename_i c hcs
      have hcs' : cases = #[c] := Array.toList_inj.1 (by simpa using hcs)
      subst hcs'
      split at hx
      · rename_i u z hsend hu hz
        obtain ⟨hzr, hzc⟩ := is_zero hz
        have hk : b.kind ≠ .early := by rcases hF.kind.1 with h | h <;> simp [h]
        split at hx
        · rename_i ch cap v l hhd
          simp only [Option.some.injEq] at hx
          subst hx
          unfold chanHead at hhd
          split at hhd
          · rename_i c'
            split at hhd
            · rename_i cap' v' l' hget
              simp only [Option.some.injEq, Prod.mk.injEq] at hhd
              obtain ⟨rfl, rfl, rfl, rfl⟩ := hhd
              obtain ⟨s, r, hobj⟩ := hF.rep.obj _ _ hget
              have hstl := hF.rep.stab _ _ hget
              obtain ⟨hR', hS⟩ := chan_write (l' := l') (s := s) (r := r + 1) hF.rep hget (fun y hy => hstl y (.tail _ hy))
              have hv : Stab H.next v' := hstl v' (.head _)
              refine ⟨σ, a, _, hF.moved hS hR', hS, ?_, ?_⟩
              · intro τ τ' hs
                simp only [ren, renArr, renL]
                rw [hv τ τ' hs]
              have hrun : (execOp a.eval o).run P w = .ok (.comm #[rcase (σ c').blk z] false .select) w := by
                have e := hF.ev _ _ hu
                simp only [ren] at e
                simp only [execOp, hop]
                simp [hzr w, hsend, e, rcase]
              have hcomm := stepG_comm (P := P) (main := true) (b := b) (a := a) (k := k) (cs := csOf σ base rc) (rest := rest) ho hw hk hrun
              have hstep := step_lone_select_recv_buf hcomm hobj (by simp)
              have hfin : ∀ y, (b.at a (.inRegion ops (i :: rest) :: k)).finish y = b.at (a.put o.dst y) (.inRegion ops rest :: k) := fun y => by rw [Frame.finish_at, ho]; rfl
              rw [hfin] at hstep
              rw [lone_eq_solo, lone_eq_solo]
              have e2 : (⟨(v' :: l').map (ren σ)⟩ : Array Value).extract 1 (⟨(v' :: l').map (ren σ)⟩ : Array Value).size = ⟨l'.map (ren σ)⟩ := by
                apply Array.toList_inj.1
                simp [List.take_of_length_le]
              rw [e2] at hstep
              refine .one ?_
              rw [hstep]
              simp [ren, renArr, renL, goInt]
            · simp at hhd
            · simp at hhd
          · simp at hhd
        · rename_i hhd
          simp only [Option.some.injEq] at hx
          subst hx
          unfold chanHead at hhd
          split at hhd
          · rename_i c'
            split at hhd
            · simp at hhd
            · rename_i cap hget
              obtain ⟨s, r, hobj⟩ := hF.rep.obj _ _ hget
              refine ⟨σ, a, w, hF, Stp.refl _ _ _, ?_, ?_⟩
              · exact .clo (by simp [clo, cloArr, cloL, hzc])
              have hrun : (execOp a.eval o).run P w = .ok (.comm #[rcase (σ c').blk z] false .select) w := by
                have e := hF.ev _ _ hu
                simp only [ren] at e
                simp only [execOp, hop]
                simp [hzr w, hsend, e, rcase]
              have hcomm := stepG_comm (P := P) (main := true) (b := b) (a := a) (k := k) (cs := csOf σ base rc) (rest := rest) ho hw hk hrun
              have hstep := step_lone_select_default hcomm hobj
              have hfin : ∀ y, (b.at a (.inRegion ops (i :: rest) :: k)).finish y = b.at (a.put o.dst y) (.inRegion ops rest :: k) := fun y => by rw [Frame.finish_at, ho]; rfl
              rw [hfin] at hstep
              rw [lone_eq_solo, lone_eq_solo]
              refine .one ?_
              rw [hstep]
              simp [ren, renArr, renL, ren_clo σ z hzc, goInt]
            · simp at hhd
          · simp at hhd
        · simp at hx
      · simp at hx
    · simp at hx

theorem lands_op {r : Rec} (hc : SoundCall P r) (hF : Fine P b base σ n F D H rc a w) (ho : ops[i]? = some o) (hw : Region.wanted o (yielded ops a.tmps) = true) :
    OpLands P b base ops i rest k o σ n F D H rc a w (stepOp P r o F D H rc) := by
  by_cases hp : plainOp o.op = true
  · rw [stepOp_plain hp]
    exact lands_heap hF ho hw fun v H' hx => does_op hF.ev hF.evst hF.rep hx
  · cases hop : o.op
    case call c =>
      unfold stepOp
      rw [hop] at hp ⊢
      simp only [opFn, soCall]
      simp only [plainOp] at hp
      cases hcal : c.callee with
      | value fo => exact lands_value hc hF ho hw hop hcal
      | invoke a b => trivial
      | builtin bu =>
        rw [hcal] at hp
        cases bu with
        | recover =>
          refine lands_recover hF ho hw fun w => ?_
          simp only [execOp, hop, resolve, hcal]
          rfl
        | _ => simp at hp
    case defer c => unfold stepOp; rw [hop]; exact lands_defer hF ho hw hop
    case panic x => unfold stepOp; rw [hop]; exact lands_panic hF ho hw hop
    case send c x => unfold stepOp; rw [hop]; exact lands_send hF ho hw hop
    case select c x => unfold stepOp; rw [hop]; exact lands_select hF ho hw hop
    all_goals simp [hop, plainOp] at hp
end
end
end Go.Proofs.YtibeinbfhhoeiaaGreatDoor.Ab

namespace Go.Proofs.YtibeinbfhhoeiaaGreatDoor.Ab
open Go Go.Conc
noncomputable section

/-- Where code comes to. -/
def Lands (P : Program) (b : Frame) (base : List Frame) (k : List Item) (σ : Sig) (n : Nat) (H : Heap) (w : World) (m : Machine) : Out → Prop
  | .none => True
  | .normal F' D' H' rc' => ∃ σ' a' w', Fine P b base σ' n F' D' H' rc' a' w' ∧ Stp σ H w σ' H' w' ∧ Arrives P m b k (csOf σ' base rc') .normal a' w'
  | .exit i F' D' H' rc' => ∃ σ' a' w', Fine P b base σ' n F' D' H' rc' a' w' ∧ Stp σ H w σ' H' w' ∧ Arrives P m b k (csOf σ' base rc') (.exit i) a' w'
  | .ret F' D' H' rc' => ∃ σ' a' w', Fine P b base σ' n F' D' H' rc' a' w' ∧ Stp σ H w σ' H' w' ∧ Arrives P m b k (csOf σ' base rc') .ret a' w'
  | .panic v F' D' H' rc' => ∃ σ' a' w', Fine P b base σ' n F' D' H' rc' a' w' ∧ Stp σ H w σ' H' w' ∧ Stab H'.next v ∧
      Arrives P m b k (csOf σ' base rc') (.panic [{ v := ren σ' v, recovered := false }]) a' w'

def Along (ops : Array Oper) : List Nat → List Oper → Prop
  | [], [] => True
  | i :: is, o :: l => ops[i]? = some o ∧ Along ops is l
  | _, _ => False

theorem along_range' (ops : Array Oper) : ∀ (m k : Nat), k + m = ops.size → Along ops (List.range' k m) (ops.toList.drop k) := by
  intro m
  induction m with
  | zero => intro k h; rw [List.drop_of_length_le (by simp; omega)]; trivial
  | succ m ih =>
    intro k h
    have hk : k < ops.toList.length := by simp; omega
    rw [List.range'_succ, List.drop_eq_getElem_cons hk]
    exact ⟨by simp, ih (k + 1) (by omega)⟩

theorem along_range (ops : Array Oper) : Along ops (List.range ops.size) ops.toList := by
  have := along_range' ops ops.size 0 (by omega)
  rwa [List.drop_zero, ← List.range_eq_range'] at this

def SoundOps (P : Program) (r : Rec) : Prop := ∀ n ops l F D H rc b base k is σ a w, Along ops is l → Fine P b base σ n F D H rc a w →
  Lands P b base k σ n H w (lone (b.at a (.inRegion ops is :: k)) (csOf σ base rc) w) (r.ops n ops l F D H rc)

/-- Where code is entered: a loop also at its next round. -/
def Starts (c : Code) (it : Item) : Prop := it = .code c ∨ ∃ x, c = .loop x ∧ it = .inLoop x

def SoundCode (P : Program) (r : Rec) : Prop := ∀ n c F D H rc b base k it σ a w, Starts c it → Fine P b base σ n F D H rc a w →
  Lands P b base k σ n H w (lone (b.at a (it :: k)) (csOf σ base rc) w) (r.code n c F D H rc)

def SoundDraw (P : Program) (r : Rec) : Prop := ∀ n id ops F D H rc b base k σ a w, Fine P b base σ n F D H rc a w →
  Lands P b base k σ n H w (lone (b.at a (.code (.region id ops true) :: k)) (csOf σ base rc) w) (stepDraw P r n ops F D H rc)

section
variable {P : Program} {b : Frame} {base : List Frame} {k : List Item} {n : Nat}

theorem Lands.of_steps {σ : Sig} {H : Heap} {w : World} {m m1 : Machine} (hs : Steps P m m1) : ∀ {out : Out}, Lands P b base k σ n H w m1 out → Lands P b base k σ n H w m out
  | .none, _ => trivial
  | .normal _ _ _ _, h => let ⟨σ', a', w', h1, h2, h3⟩ := h; ⟨σ', a', w', h1, h2, .of_steps hs h3⟩
  | .exit _ _ _ _ _, h => let ⟨σ', a', w', h1, h2, h3⟩ := h; ⟨σ', a', w', h1, h2, .of_steps hs h3⟩
  | .ret _ _ _ _, h => let ⟨σ', a', w', h1, h2, h3⟩ := h; ⟨σ', a', w', h1, h2, .of_steps hs h3⟩
  | .panic _ _ _ _ _, h => let ⟨σ', a', w', h1, h2, h4, h3⟩ := h; ⟨σ', a', w', h1, h2, h4, .of_steps hs h3⟩

theorem Lands.after {σ σ1 : Sig} {H H1 : Heap} {w w1 : World} {m : Machine} (hS : Stp σ H w σ1 H1 w1) : ∀ {out : Out}, Lands P b base k σ1 n H1 w1 m out → Lands P b base k σ n H w m out
  | .none, _ => trivial
  | .normal _ _ _ _, h => let ⟨σ', a', w', h1, h2, h3⟩ := h; ⟨σ', a', w', h1, hS.trans h2, h3⟩
  | .exit _ _ _ _ _, h => let ⟨σ', a', w', h1, h2, h3⟩ := h; ⟨σ', a', w', h1, hS.trans h2, h3⟩
  | .ret _ _ _ _, h => let ⟨σ', a', w', h1, h2, h3⟩ := h; ⟨σ', a', w', h1, hS.trans h2, h3⟩
  | .panic _ _ _ _ _, h => let ⟨σ', a', w', h1, h2, h4, h3⟩ := h; ⟨σ', a', w', h1, hS.trans h2, h4, h3⟩

theorem put_none (a : Act) (v : Value) : a.put none v = a := rfl

theorem lands_next {r : Rec} (hr : SoundOps P r) {ops : Array Oper} {l : List Oper} {is : List Nat} (ha : Along ops is l) {dst : Option Tmp} {v : Value} {F : Fr} {D : Dl} {H : Heap} {rc : RC} {σ : Sig} {a : Act} {w : World}
    (hF : Fine P b base σ n F D H rc a w) (hv : Stab H.next v) :
    Lands P b base k σ n H w (lone (b.at (a.put dst (ren σ v)) (.inRegion ops is :: k)) (csOf σ base rc) w) (soNext r n ops l dst v F D H rc) := by
  unfold soNext
  split
  · rename_i d
    split
    · trivial
    · rename_i hb
      have hd : d < n := by
        rcases Nat.lt_or_ge d n with h | h
        · exact h
        · rw [Nat.ble_eq_true_of_le h] at hb; cases hb
      exact hr _ _ _ _ _ _ _ _ _ _ _ _ _ _ ha (hF.put hd hv)
  · exact hr _ _ _ _ _ _ _ _ _ _ _ _ _ _ ha hF

theorem sound_ops {r : Rec} (hr : SoundOps P r) (hc : SoundCall P r) : ∀ n ops l F D H rc b base k is σ a w, Along ops is l → Fine P b base σ n F D H rc a w →
    Lands P b base k σ n H w (lone (b.at a (.inRegion ops is :: k)) (csOf σ base rc) w) (stepOps P r n ops l F D H rc) := by
  intro n ops l F D H rc b base k is σ a w ha hF
  unfold stepOps
  split
  · cases is with
    | nil => exact ⟨σ, a, w, hF, Stp.refl _ _ _, .one step_region_end⟩
    | cons => exact ha.elim
  · rename_i o rest
    cases is with
    | nil => exact ha.elim
    | cons i is =>
      obtain ⟨ho, ha⟩ := ha
      split
      · rename_i hg
        have hl := lands_op (rest := is) (k := k) (i := i) hc hF ho (guard_spec hF hg)
        unfold soThen
        split
        · rename_i v D' H' rc' he
          rw [he] at hl
          obtain ⟨σ', a', w', hF', hS, hst, hsteps⟩ := hl
          exact .of_steps hsteps (.after hS (lands_next hr ha hF' hst))
        · rename_i v H' he
          rw [he] at hl
          obtain ⟨σ', a', w', todo, hF', hS, hst, hsteps⟩ := hl
          exact ⟨σ', a', w', hF', hS, hst, todo, hsteps⟩
        · trivial
      · rename_i hg
        have hsk := step_op_skip (P := P) (b := b) (a := a) (k := k) (cs := csOf σ base rc) (w := w) (ops := ops) (i := i) (rest := is) (by simp [ho, guard_spec hF hg])
        simp only [ho, Option.bind_some] at hsk
        have e : ren σ undef = undef := ren_clo _ _ rfl
        rw [← e] at hsk
        exact .of_steps (.one hsk) (lands_next hr ha hF (.clo rfl))
      · trivial

theorem Lands.pass {σ : Sig} {H : Heap} {w : World} {m : Machine} {x : Item} (hx : x.plain = true) : ∀ {out : Out}, (∀ F D H rc, out ≠ .normal F D H rc) → Lands P b base (x :: k) σ n H w m out → Lands P b base k σ n H w m out
  | .none, _, _ => trivial
  | .normal _ _ _ _, hn, _ => absurd rfl (hn _ _ _ _)
  | .exit _ _ _ _ _, _, h => let ⟨σ', a', w', h1, h2, h3⟩ := h; ⟨σ', a', w', h1, h2, .pass hx (fun _ _ => .inl (by simp)) h3⟩
  | .ret _ _ _ _, _, h => let ⟨σ', a', w', h1, h2, h3⟩ := h; ⟨σ', a', w', h1, h2, .pass hx (fun _ _ => .inl (by simp)) h3⟩
  | .panic _ _ _ _ _, _, h => let ⟨σ', a', w', h1, h2, h4, h3⟩ := h; ⟨σ', a', w', h1, h2, h4, .pass hx (fun _ _ => .inl (by simp)) h3⟩

theorem lands_seq {r : Rec} (hr : SoundCode P r) {σ : Sig} {H : Heap} {w : World} {m : Machine} {x : Item} {c : Code} (hx : x.plain = true) (hs : Starts c x) {out : Out}
    (h : Lands P b base (x :: k) σ n H w m out) : Lands P b base k σ n H w m (scSeq r n c out) := by
  cases out with
  | normal F D H' rc =>
    obtain ⟨σ', a', w', hF, hS, harr⟩ := h
    exact .of_steps harr (.after hS (hr _ _ _ _ _ _ _ _ _ _ _ _ _ hs hF))
  | none => trivial
  | exit i F D H' rc => exact Lands.pass (out := .exit i F D H' rc) hx (by intros; simp) h
  | ret F D H' rc => exact Lands.pass (out := .ret F D H' rc) hx (by intros; simp) h
  | panic v F D H' rc => exact Lands.pass (out := .panic v F D H' rc) hx (by intros; simp) h

theorem lands_block {σ : Sig} {H : Heap} {w : World} {m : Machine} {id : Nat} {out : Out}
    (h : Lands P b base (.inBlock id :: k) σ n H w m out) : Lands P b base k σ n H w m (scBlock id out) := by
  cases out with
  | normal F D H' rc =>
    obtain ⟨σ', a', w', hF, hS, harr⟩ := h
    exact ⟨σ', a', w', hF, hS, Steps.trans harr (.one step_inBlock)⟩
  | none => trivial
  | exit i F D H' rc =>
    obtain ⟨σ', a', w', hF, hS, harr⟩ := h
    simp only [scBlock]
    split
    · rename_i hi
      have hi' : i = id := Nat.eq_of_beq_eq_true hi
      subst hi'
      exact ⟨σ', a', w', hF, hS, harr k (by simp [exitTo])⟩
    · rename_i hi
      have hi' : i ≠ id := fun e => by rw [e, Nat.beq_refl] at hi; cases hi
      exact ⟨σ', a', w', hF, hS, fun k' hk => harr k' (by simp only [exitTo]; rw [if_neg (by simpa using Ne.symm hi')]; exact hk)⟩
  | ret F D H' rc => exact h
  | panic v F D H' rc => exact h

theorem sound_code {r : Rec} (hr : SoundCode P r) (ho : SoundOps P r) (hd : SoundDraw P r) : ∀ n c F D H rc b base k it σ a w, Starts c it → Fine P b base σ n F D H rc a w →
    Lands P b base k σ n H w (lone (b.at a (it :: k)) (csOf σ base rc) w) (stepCode P r n c F D H rc) := by
  intro n c F D H rc b base k it σ a w hit hF
  unfold stepCode
  by_cases hl : ∃ x, c = .loop x
  · obtain ⟨x, rfl⟩ := hl
    have hgo : Steps P (lone (b.at a (it :: k)) (csOf σ base rc) w) (lone (b.at a (.code x :: .inLoop x :: k)) (csOf σ base rc) w) := by
      rcases hit with rfl | ⟨y, hy, rfl⟩
      · exact .one step_loop
      · cases hy; exact .one step_inLoop
    exact .of_steps hgo (lands_seq hr rfl (.inr ⟨x, rfl, rfl⟩) (hr _ _ _ _ _ _ _ _ (.inLoop x :: k) _ _ _ _ (.inl rfl) hF))
  · have hit' : it = .code c := hit.resolve_right fun ⟨x, hx, _⟩ => hl ⟨x, hx⟩
    subst hit'
    cases c with
    | skip => exact ⟨σ, a, w, hF, Stp.refl _ _ _, .one step_skip⟩
    | label l => exact ⟨σ, a, w, hF, Stp.refl _ _ _, .one step_label⟩
    | region id ops draw =>
      cases draw with
      | false => exact .of_steps (.one step_region) (ho _ _ _ _ _ _ _ _ _ _ _ _ _ _ (along_range ops) hF)
      | true => exact hd _ _ _ _ _ _ _ _ _ _ _ _ _ hF
    | seq x y => exact lands_seq hr rfl (.inl rfl) (.of_steps (.one step_seq) (hr _ _ _ _ _ _ _ _ (.code y :: k) _ _ _ _ (.inl rfl) hF))
    | cond c x y =>
      simp only [codeFn, scCond]
      split
      · rename_i hc
        have := hF.ev _ _ hc
        have hs := step_cond (P := P) (b := b) (k := k) (cs := csOf σ base rc) (w := w) (x := x) (y := y) (t := true) (by rw [this]; simp [ren])
        exact .of_steps (.one hs) (hr _ _ _ _ _ _ _ _ _ _ _ _ _ (.inl rfl) hF)
      · rename_i hc
        have := hF.ev _ _ hc
        have hs := step_cond (P := P) (b := b) (k := k) (cs := csOf σ base rc) (w := w) (x := x) (y := y) (t := false) (by rw [this]; simp [ren])
        exact .of_steps (.one hs) (hr _ _ _ _ _ _ _ _ _ _ _ _ _ (.inl rfl) hF)
      · trivial
    | block id x => exact lands_block (.of_steps (.one step_block) (hr _ _ _ _ _ _ _ _ (.inBlock id :: k) _ _ _ _ (.inl rfl) hF))
    | loop x => exact absurd ⟨x, rfl⟩ hl
    | exit id => exact ⟨σ, a, w, hF, Stp.refl _ _ _, fun _ hk => .one (step_exit hk)⟩
    | ret => exact ⟨σ, a, w, hF, Stp.refl _ _ _, _, .one step_ret⟩
    | _ => trivial

/- ## calls -/
theorem run_loadVar {t : TypeId} {a : Addr} {w : World} : (Instr.loadAt t (.pointer (some a))).run P w = (loadVar t a).run P w := by
  simp [Instr.loadAt, Instr.sureAddr]

theorem run_result {F : Fr} {D : Dl} {H : Heap} {rc : RC} {σ : Sig} {a : Act} {w : World} (hF : Fine P b base σ n F D H rc a w) : ∀ {x : ResultVar} {v : Value}, xresult P H F x = some v →
    (match x with
      | .tmp t => pure (a.tmps.getD t undef)
      | .cell c t => do loadVar t (← asAddr (a.tmps.getD c undef)) : Sem Value).run P w = .ok (ren σ v) w ∧ Stab H.next v := by
  intro x v h
  cases x with
  | tmp t =>
    simp only [xresult] at h
    exact ⟨by simp [hF.get t v h], hF.fst t v h⟩
  | cell c t =>
    simp only [xresult] at h
    split at h
    · rename_i p hp
      have e := hF.get _ _ hp
      simp only [ren] at e
      have hl := run_xload hF.rep h
      simp only [ren] at hl
      rw [run_loadVar] at hl
      refine ⟨?_, hl.2⟩
      simp [e, asAddr, hl.1]
    · cases h

theorem run_resultL {F : Fr} {D : Dl} {H : Heap} {rc : RC} {σ : Sig} {a : Act} {w : World} (hF : Fine P b base σ n F D H rc a w) : ∀ {l : List ResultVar} {vs : List Value}, xresultL P H F l = some vs →
    (l.mapM fun x => (match x with
      | .tmp t => pure (a.tmps.getD t undef)
      | .cell c t => do loadVar t (← asAddr (a.tmps.getD c undef)) : Sem Value)).run P w = .ok (vs.map (ren σ)) w ∧ ∀ v ∈ vs, Stab H.next v := by
  intro l
  induction l with
  | nil => intro vs h; simp only [xresultL, Option.some.injEq] at h; subst h; exact ⟨rfl, by simp⟩
  | cons x l ih =>
    intro vs h
    simp only [xresultL] at h
    split at h
    · rename_i v hv
      split at h
      · rename_i vs' hvs
        simp only [Option.some.injEq] at h
        subst h
        obtain ⟨h1, h2⟩ := run_result hF hv
        obtain ⟨h3, h4⟩ := ih hvs
        refine ⟨?_, ?_⟩
        · rw [List.mapM_cons, Sem.run_bind, h1, Result.andThen, Sem.run_bind, h3]
          rfl
        · intro u hu
          cases hu with
          | head => exact h2
          | tail _ hu => exact h4 u hu
      · cases h
    · cases h

theorem run_results {fn : Func} {F : Fr} {D : Dl} {H : Heap} {rc : RC} {σ : Sig} {a : Act} {w : World} {v : Value} (hF : Fine P b base σ n F D H rc a w) (h : xresults P H F fn.results.toList = some v) :
    (results fn a.tmps).run P w = .ok (ren σ v) w ∧ Stab H.next v := by
  unfold xresults at h
  have key : ∀ vs, xresultL P H F fn.results.toList = some vs → (results fn a.tmps).run P w = .ok (if h : (List.map (ren σ) vs).toArray.size = 1 then (List.map (ren σ) vs).toArray[0] else .tuple ⟨vs.map (ren σ)⟩) w ∧ ∀ v ∈ vs, Stab H.next v := by
    intro vs hvs
    obtain ⟨h1, h2⟩ := run_resultL hF hvs
    refine ⟨?_, h2⟩
    unfold results
    rw [Sem.run_bind, Array.mapM_eq_mapM_toList]
    rw [Sem.run_map]
    erw [h1]
    simp only [Result.andThen]
    rfl
  split at h
  · rename_i u hu
    simp only [Option.some.injEq] at h
    subst h
    obtain ⟨h1, h2⟩ := key _ hu
    exact ⟨by rw [h1]; rfl, h2 _ (.head _)⟩
  · rename_i vs hne hvs
    simp only [Option.some.injEq] at h
    subst h
    obtain ⟨h1, h2⟩ := key _ hvs
    refine ⟨?_, Stab.tuple h2⟩
    rw [h1]
    have : ¬ (List.map (ren σ) vs).toArray.size = 1 := by
      intro e
      simp at e
      obtain ⟨u, rfl⟩ := List.length_eq_one_iff.1 e
      exact hne u rfl
    rw [dif_neg this]
    simp [ren, renArr, renL_eq]
  · cases h

theorem putArgs_get : ∀ (l : List Value) (i : Nat) (F : Fr) (t : Nat), (putArgs i l F).get t = if i ≤ t ∧ t < i + l.length then l[t - i]? else F.get t := by
  intro l
  induction l with
  | nil => intro i F t; simp only [putArgs, List.length_nil]; rw [if_neg (by omega)]
  | cons v l ih =>
    intro i F t
    simp only [putArgs, ih, List.length_cons, Tr.get_set]
    by_cases h1 : i + 1 ≤ t ∧ t < i + 1 + l.length
    · rw [if_pos h1, if_pos (by omega)]
      have : t - i = (t - (i + 1)) + 1 := by omega
      rw [this]; simp
    · rw [if_neg h1]
      by_cases h2 : i = t
      · subst h2; rw [if_pos rfl, if_pos (by omega)]; simp
      · rw [if_neg h2, if_neg (by omega)]

/-- A call's first state. -/
theorem fine_enter {σ : Sig} {H : Heap} {w : World} {rc : RC} {args : List Value} {m : Nat} (hR : Rep P σ H w) (hst : ∀ v ∈ args, Stab H.next v) (hlen : args.length ≤ m) (hrs : RcStab H.next rc)
    (hk : (b.kind = .normal ∨ b.kind = .deferred) ∧ b.roundOf = none) (hrk : rc ≠ .norm → b.kind = .deferred ∧ base ≠ []) :
    Fine P b base σ m (putArgs 0 args .lf) [] H rc { tmps := ⟨args.map (ren σ)⟩ ++ Array.replicate (m - (⟨args.map (ren σ)⟩ : Array Value).size) undef, defers := [] } w where
  size := by simp; omega
  get t v hv := by
    rw [putArgs_get] at hv
    split at hv
    · rename_i ht
      simp only [Nat.sub_zero] at hv
      have hlt : t < args.length := by omega
      rw [Array.getElem?_append_left (by simpa using hlt)]
      simp [hv]
    · cases hv
  fst t v hv := by
    rw [putArgs_get] at hv
    split at hv
    · exact hst v (List.mem_of_getElem? hv)
    · cases hv
  defs := .nil
  dst := by intro x hx; cases hx
  rep := hR
  rcs := hrs
  kind := hk
  rck := hrk

theorem enters_spec {f : FuncId} {fn : Func} {c : Code} (h : enters P f = some (fn, c)) : P.funcs[f]? = some fn ∧ fn.body = some c := by
  unfold enters at h
  split at h
  · rename_i fn' hf
    split at h
    · rename_i c' hb hn
      simp only [Option.some.injEq, Prod.mk.injEq] at h
      obtain ⟨rfl, rfl⟩ := h
      exact ⟨hf, hb⟩
    · cases h
  · cases h

theorem enter_eq {f : FuncId} {fn : Func} {c : Code} (h : enters P f = some (fn, c)) (args : Array Value) (kind : CallKind) :
    Frame.enter P f args kind = ({ (default : Frame) with fn := f, kind := kind } : Frame).at { tmps := args ++ Array.replicate (fn.ntmps - args.size) undef, defers := [] } [.code c] := by
  obtain ⟨hf, hb⟩ := enters_spec h
  simp [Frame.enter, Frame.at, hf, hb]

/-- What a call's end says. -/
def RetPost (P : Program) (σ : Sig) (H : Heap) (w : World) (v : Value) (H' : Heap) (e : Ending) (w' : World) : Prop :=
  ∃ σ', e = .returned (ren σ' v) ∧ Rep P σ' H' w' ∧ Stp σ H w σ' H' w' ∧ Stab H'.next v
def PanPost (P : Program) (σ : Sig) (H : Heap) (w : World) (v : Value) (H' : Heap) (e : Ending) (w' : World) : Prop :=
  ∃ σ', e = .panicked [{ v := ren σ' v, recovered := false }] ∧ Rep P σ' H' w' ∧ Stp σ H w σ' H' w' ∧ Stab H'.next v

def EndPost (P : Program) (σ : Sig) (H : Heap) (w : World) : AEnd → Ending → World → Prop
  | .none => fun _ _ => False
  | .ret v H' => RetPost P σ H w v H'
  | .panic v H' => PanPost P σ H w v H'

theorem EndPost.after {σ σ1 : Sig} {H H1 : Heap} {w w1 : World} (hS : Stp σ H w σ1 H1 w1) : ∀ {x : AEnd} {e : Ending} {w' : World}, EndPost P σ1 H1 w1 x e w' → EndPost P σ H w x e w'
  | .none, _, _, h => h
  | .ret _ _, _, _, h => let ⟨σ', h1, h2, h3, h4⟩ := h; ⟨σ', h1, h2, hS.trans h3, h4⟩
  | .panic _ _, _, _, h => let ⟨σ', h1, h2, h3, h4⟩ := h; ⟨σ', h1, h2, hS.trans h3, h4⟩

def SoundDcall (P : Program) (r : Rec) : Prop := ∀ f l H m H' m', r.dcall f l H m = some (H', m') → (enters P f).isSome ∧ m ≠ .norm ∧ m' ≠ .norm ∧
  ∀ σ w, Rep P σ H w → (∀ v ∈ l, Stab H.next v) → RcStab H.next m →
    CallsD P f ⟨l.map (ren σ)⟩ (modeOf σ m) w fun e u' w' => ∃ σ' x, e = .returned x ∧ u' = modeOf σ' m' ∧ Rep P σ' H' w' ∧ Stp σ H w σ' H' w' ∧ RcStab H'.next m'

def SoundDefers (P : Program) (r : Rec) : Prop := ∀ fn F D m H, r.defers fn F D m H ≠ .none → m ≠ .norm ∧
  ∀ σ n a w b base, Fine P b base σ n F D H .norm a w → RcStab H.next m → Leaves P fn a.tmps (EndPost P σ H w (r.defers fn F D m H)) a.defers (modeOf σ m) w

theorem leaves_mono {fn : Func} {tmps : Array Value} {R R' : Ending → World → Prop} (hRR : ∀ e w, R e w → R' e w) : ∀ {ds : List Deferred} {u : FrameMode} {w : World}, Leaves P fn tmps R ds u w → Leaves P fn tmps R' ds u w := by
  intro ds
  induction ds with
  | nil =>
    intro u w h
    cases u with
    | run => exact h
    | returning => obtain ⟨v, h1, h2⟩ := h; exact ⟨v, h1, hRR _ _ h2⟩
    | panicking ch => exact hRR _ _ h
  | cons d ds ih =>
    intro u w h
    obtain ⟨h1, fv, cap, f, args, h2, h3, h4⟩ := h
    refine ⟨h1, fv, cap, f, args, h2, h3, h4.mono fun e u' w' he => ?_⟩
    cases e with
    | returned x => exact ih he
    | panicked x => exact ih he
    | outgrown => exact hRR _ _ he

theorem modeOf_move {m : Nat} {σ σ' : Sig} {rc : RC} (h : RcStab m rc) (hs : ∀ i, i < m → σ i = σ' i) : modeOf σ rc = modeOf σ' rc := by
  cases rc with
  | pan v r => simp only [modeOf]; rw [Stab.ren_eq h hs]
  | _ => rfl

theorem settle_mode (σ : Sig) {m : RC} (h : m ≠ .norm) : settle (modeOf σ m) = modeOf σ (settleRC m) := by
  cases m with
  | norm => exact absurd rfl h
  | ret => rfl
  | pan v r => cases r <;> simp [settle, modeOf, settleRC]

theorem settleRC_norm {m : RC} (h : m ≠ .norm) : settleRC m ≠ .norm := by
  cases m with
  | norm => exact absurd rfl h
  | ret => simp [settleRC]
  | pan v r => cases r <;> simp [settleRC]

theorem settleRC_stab {m : Nat} {rc : RC} (h : RcStab m rc) : RcStab m (settleRC rc) := by
  cases rc with
  | pan v r => cases r <;> first | exact h | trivial
  | _ => trivial

theorem modeOf_run {σ : Sig} {m : RC} (h : m ≠ .norm) : modeOf σ m ≠ .run := by
  cases m with
  | norm => exact absurd rfl h
  | _ => simp [modeOf]

theorem sound_defers {r : Rec} (hd : SoundDcall P r) (hr : SoundDefers P r) : ∀ fn F D m H, stepDefers P r fn F D m H ≠ .none → m ≠ .norm ∧
    ∀ σ n a w b base, Fine P b base σ n F D H .norm a w → RcStab H.next m → Leaves P fn a.tmps (EndPost P σ H w (stepDefers P r fn F D m H)) a.defers (modeOf σ m) w := by
  intro fn F D m H hne
  cases D with
  | nil =>
    simp only [stepDefers] at hne ⊢
    split at hne
    · split at hne
      · rename_i v hv
        refine ⟨by simp, fun σ n a w b base hF _ => ?_⟩
        obtain ⟨h1, h2⟩ := run_results hF hv
        obtain ⟨tmps, dfs⟩ := a
        have hdefs := hF.defs
        simp only at hdefs
        cases hdefs
        exact ⟨_, h1, σ, rfl, hF.rep, Stp.refl _ _ _, h2⟩
      · exact absurd rfl hne
    · rename_i v
      refine ⟨by simp, fun σ n a w b base hF hst => ?_⟩
      obtain ⟨tmps, dfs⟩ := a
      have hdefs := hF.defs
      simp only at hdefs
      cases hdefs
      exact ⟨σ, rfl, hF.rep, Stp.refl _ _ _, hst⟩
    · exact absurd rfl hne
  | cons x ds =>
    obtain ⟨f, l⟩ := x
    simp only [stepDefers] at hne ⊢
    cases hdc : r.dcall f l H m with
    | none => rw [hdc] at hne; exact absurd rfl hne
    | some p =>
      obtain ⟨H', m'⟩ := p
      rw [hdc] at hne
      simp only at hne ⊢
      obtain ⟨hen, hm, hm', hcalls⟩ := hd f l H m H' m' hdc
      refine ⟨hm, fun σ n a w b base hF hst => ?_⟩
      obtain ⟨tmps, dfs⟩ := a
      have hdefs := hF.defs
      simp only at hdefs
      cases hdefs with
      | cons hrel hrest =>
        rename_i d dtl
        obtain ⟨cap, ht, hargs⟩ := hrel
        have hc := hcalls σ w hF.rep (fun v hv => hF.dst _ (.head _) v hv) hst
        refine ⟨modeOf_run hm, _, _, f, ⟨l.map (ren σ)⟩, ht, ?_, hc.mono fun e u' w' he => ?_⟩
        · rw [ht]
          simp only [invoke]
          rw [hargs]
          exact run_callFunc hen w
        · obtain ⟨σ', y, rfl, rfl, hR, hS, hst'⟩ := he
          simp only
          rw [settle_mode σ' hm']
          have hF' : Fine P b base σ' n F ds H' .norm { tmps := tmps, defers := dtl } w' := by
            have h0 : Fine P b base σ n F ds H .norm { tmps := tmps, defers := dtl } w := { hF with
              size := hF.size
              get := hF.get
              defs := hrest
              dst := fun x hx => hF.dst x (.tail _ hx) }
            exact h0.moved hS hR
          exact leaves_mono (fun e w h => EndPost.after hS h) ((hr _ _ _ _ _ hne).2 σ' n _ w' b base hF' (settleRC_stab hst'))
end
end
end Go.Proofs.YtibeinbfhhoeiaaGreatDoor.Ab

namespace Go.Proofs.YtibeinbfhhoeiaaGreatDoor.Ab
open Go Go.Conc
noncomputable section
section
variable {P : Program}

theorem sound_call {r : Rec} (hcode : SoundCode P r) (hdef : SoundDefers P r) {hk : FuncId → Option (List Value → Heap → AEnd)}
    (hhk : ∀ f g args H, hk f = some g → g args H ≠ .none → (enters P f).isSome ∧ ∀ σ w, Rep P σ H w → (∀ v ∈ args, Stab H.next v) → Calls P f ⟨args.map (ren σ)⟩ w (EndPost P σ H w (g args H))) :
    ∀ f args H, stepCall P r hk f args H ≠ .none → (enters P f).isSome ∧
      ∀ σ w, Rep P σ H w → (∀ v ∈ args, Stab H.next v) → Calls P f ⟨args.map (ren σ)⟩ w (EndPost P σ H w (stepCall P r hk f args H)) := by
  intro f args H hne
  unfold stepCall at hne ⊢
  split at hne
  · rename_i g hg
    obtain ⟨h1, h2⟩ := hhk f g args H hg hne
    exact ⟨h1, by simpa only [hg] using h2⟩
  · rename_i hg
    split at hne
    · rename_i fn c he
      split at hne
      · rename_i hle
        refine ⟨by rw [he]; rfl, fun σ w hR hst => ?_⟩
        have hlen : args.length ≤ fn.ntmps := Nat.le_of_ble_eq_true hle
        have hF := fine_enter (P := P) (b := { (default : Frame) with fn := f, kind := .normal }) (base := []) (rc := .norm) hR hst hlen trivial ⟨.inl rfl, rfl⟩ (fun h => absurd rfl h)
        obtain ⟨hf, _⟩ := enters_spec he
        intro cs
        have hF' := fine_enter (P := P) (b := { (default : Frame) with fn := f, kind := .normal }) (base := cs) (rc := .norm) hR hst hlen trivial ⟨.inl rfl, rfl⟩ (fun h => absurd rfl h)
        have hl := hcode fn.ntmps c _ _ _ _ _ _ [] _ _ _ _ (.inl rfl) hF'
        rw [← enter_eq he] at hl
        have fin : ∀ {F' : Fr} {D' : Dl} {H' : Heap} {rc' : RC} {m : RC} {σ' : Sig} {a' : Act} {w' : World} {fr : Frame} {todo : List Item},
            Fine P { (default : Frame) with fn := f, kind := .normal } cs σ' fn.ntmps F' D' H' rc' a' w' → Stp σ H w σ' H' w' →
            fr = { ({ (default : Frame) with fn := f, kind := .normal } : Frame).at a' todo with mode := modeOf σ' m } → RcStab H'.next m →
            r.defers fn F' D' m H' ≠ .none → Steps P (lone (Frame.enter P f ⟨args.map (ren σ)⟩ .normal) cs w) (lone fr cs w') →
            ∃ e w'' fr', EndPost P σ H w (r.defers fn F' D' m H') e w'' ∧ Comes P (lone (Frame.enter P f ⟨args.map (ren σ)⟩ .normal) cs w) (lone fr' cs w'') e ∧ fr'.fn = f ∧ fr'.leaving P w'' e := by
          intro F' D' H' rc' m σ' a' w' fr todo hFn hS hfr hms hd hsteps
          have hnorm : rc' = .norm := by
            cases rc' with
            | norm => rfl
            | ret => have := (hFn.rck (by simp)).1; cases this
            | pan v r => have := (hFn.rck (by simp)).1; cases this
          subst hnorm
          have hlv := (hdef _ _ _ _ _ hd).2 _ _ _ _ _ _ hFn hms
          obtain ⟨e, w'', fr', hR', hs, hfn, hlv'⟩ := leaves_steps a'.defers (modeOf σ' m) w' fr cs (by subst hfr; rfl) (by subst hfr; rfl) (by subst hfr; rfl) (by subst hfr; exact hf) (by subst hfr; rfl) hlv
          refine ⟨e, w'', fr', EndPost.after hS hR', Comes.of_steps hsteps hs, ?_, hlv'⟩
          rw [hfn]; subst hfr; rfl
        generalize r.code fn.ntmps c (putArgs 0 args .lf) [] H .norm = out at hl hne
        cases out with
        | none => exact absurd rfl hne
        | exit => exact absurd rfl hne
        | normal F' D' H' rc' =>
          obtain ⟨σ', a', w', hFn, hS, harr⟩ := hl
          have hnorm : csOf σ' cs rc' = cs := by
            cases rc' with
            | norm => rfl
            | ret => have := (hFn.rck (by simp)).1; cases this
            | pan v r => have := (hFn.rck (by simp)).1; cases this
          rw [hnorm] at harr
          exact fin (m := .ret) (todo := []) hFn hS rfl trivial hne (Steps.trans harr (.one step_end))
        | ret F' D' H' rc' =>
          obtain ⟨σ', a', w', hFn, hS, todo, harr⟩ := hl
          have hnorm : csOf σ' cs rc' = cs := by
            cases rc' with
            | norm => rfl
            | ret => have := (hFn.rck (by simp)).1; cases this
            | pan v r => have := (hFn.rck (by simp)).1; cases this
          rw [hnorm] at harr
          exact fin (m := .ret) hFn hS rfl trivial hne harr
        | panic v F' D' H' rc' =>
          obtain ⟨σ', a', w', hFn, hS, hst', todo, harr⟩ := hl
          have hnorm : csOf σ' cs rc' = cs := by
            cases rc' with
            | norm => rfl
            | ret => have := (hFn.rck (by simp)).1; cases this
            | pan v r => have := (hFn.rck (by simp)).1; cases this
          rw [hnorm] at harr
          exact fin (m := .pan v false) hFn hS rfl hst' hne harr
      · exact absurd rfl hne
    · exact absurd rfl hne

theorem csOf_mode {σ : Sig} {m : RC} {c0 : Frame} {cs : List Frame} (hm : m ≠ .norm) (h : c0.mode = modeOf σ m) : csOf σ (c0 :: cs) m = c0 :: cs := by
  cases m with
  | norm => exact absurd rfl hm
  | ret => simp only [csOf, modeOf] at h ⊢; rw [← h]
  | pan v r => simp only [csOf, modeOf] at h ⊢; rw [← h]

theorem csOf_cons {σ : Sig} {m : RC} {c0 : Frame} {cs : List Frame} (hm : m ≠ .norm) : csOf σ (c0 :: cs) m = { c0 with mode := modeOf σ m } :: cs := by
  cases m with
  | norm => exact absurd rfl hm
  | ret => rfl
  | pan v r => rfl

theorem scKeep_spec {H H' : Heap} {m m' : RC} (h : scKeep H m = some (H', m')) : H = H' ∧ m = m' ∧ m' ≠ .norm := by
  cases m with
  | norm => cases h
  | ret => simp only [scKeep, Option.some.injEq, Prod.mk.injEq] at h; obtain ⟨rfl, rfl⟩ := h; exact ⟨rfl, rfl, by simp⟩
  | pan v r => simp only [scKeep, Option.some.injEq, Prod.mk.injEq] at h; obtain ⟨rfl, rfl⟩ := h; exact ⟨rfl, rfl, by simp⟩

theorem scDone_spec {out : Out} {H' : Heap} {m' : RC} (h : scDone out = some (H', m')) : m' ≠ .norm ∧ ((∃ F, out = .normal F [] H' m') ∨ (∃ F, out = .ret F [] H' m')) := by
  unfold scDone at h
  split at h
  · obtain ⟨rfl, rfl, hm⟩ := scKeep_spec h; exact ⟨hm, .inl ⟨_, rfl⟩⟩
  · obtain ⟨rfl, rfl, hm⟩ := scKeep_spec h; exact ⟨hm, .inr ⟨_, rfl⟩⟩
  · cases h

theorem enters_unique {f : FuncId} (h : (enters P f).isSome) : ∃ fn c, enters P f = some (fn, c) := by
  cases he : enters P f with
  | none => rw [he] at h; cases h
  | some p => exact ⟨p.1, p.2, rfl⟩

theorem sound_dcall {r : Rec} (hcode : SoundCode P r) : ∀ f l H m H' m', stepDcall P r f l H m = some (H', m') → (enters P f).isSome ∧ m ≠ .norm ∧ m' ≠ .norm ∧
    ∀ σ w, Rep P σ H w → (∀ v ∈ l, Stab H.next v) → RcStab H.next m →
      CallsD P f ⟨l.map (ren σ)⟩ (modeOf σ m) w fun e u' w' => ∃ σ' x, e = .returned x ∧ u' = modeOf σ' m' ∧ Rep P σ' H' w' ∧ Stp σ H w σ' H' w' ∧ RcStab H'.next m' := by
  intro f l H m H' m' h
  have hm : m ≠ .norm := by intro e; subst e; simp [stepDcall] at h
  have h' : ∃ fn c, enters P f = some (fn, c) ∧ Nat.ble l.length fn.ntmps = true ∧ fn.results.toList = [] ∧ scDone (r.code fn.ntmps c (putArgs 0 l .lf) [] H m) = some (H', m') := by
    unfold stepDcall at h
    split at h
    · cases h
    · split at h
      · rename_i fn c he
        split at h
        · rename_i h1 h2
          exact ⟨fn, c, he, h1, h2, h⟩
        · cases h
      · cases h
  obtain ⟨fn, c, he, hle, hres, hdone⟩ := h'
  have hlen : l.length ≤ fn.ntmps := Nat.le_of_ble_eq_true hle
  obtain ⟨hf, _⟩ := enters_spec he
  obtain ⟨hm', hdone⟩ := scDone_spec hdone
  refine ⟨by rw [he]; rfl, hm, hm', fun σ w hR hst hms => ?_⟩
  · intro c0 cs hc0
    have hF := fine_enter (P := P) (b := { (default : Frame) with fn := f, kind := .deferred }) (base := c0 :: cs) (rc := m) hR hst hlen hms ⟨.inr rfl, rfl⟩ (fun _ => ⟨rfl, by simp⟩)
    have hl := hcode fn.ntmps c _ _ _ _ _ _ [] _ _ _ _ (.inl rfl) hF
    rw [← enter_eq he, csOf_mode hm hc0] at hl
    have fin : ∀ {F' : Fr} {σ' : Sig} {a' : Act} {w' : World} {fr : Frame} {todo : List Item},
        Fine P { (default : Frame) with fn := f, kind := .deferred } (c0 :: cs) σ' fn.ntmps F' [] H' m' a' w' → Stp σ H w σ' H' w' →
        fr = { ({ (default : Frame) with fn := f, kind := .deferred } : Frame).at a' todo with mode := .returning } →
        Steps P (lone (Frame.enter P f ⟨l.map (ren σ)⟩ .deferred) (c0 :: cs) w) (lone fr (csOf σ' (c0 :: cs) m') w') →
        ∃ e u' w' fr, (∃ σ' x, e = .returned x ∧ u' = modeOf σ' m' ∧ Rep P σ' H' w' ∧ Stp σ H w σ' H' w' ∧ RcStab H'.next m') ∧
          Comes P (lone (Frame.enter P f ⟨l.map (ren σ)⟩ .deferred) (c0 :: cs) w) (lone fr ({ c0 with mode := u' } :: cs) w') e ∧ fr.kind = .deferred ∧ fr.going P w' e := by
      intro F' σ' a' w' fr todo hFn hS hfr hsteps
      rw [csOf_cons hm'] at hsteps
      obtain ⟨tmps, dfs⟩ := a'
      have hdefs := hFn.defs
      simp only at hdefs
      cases hdefs
      refine ⟨.returned (.tuple #[]), modeOf σ' m', w', fr, ⟨σ', _, rfl, rfl, hFn.rep, hS, hFn.rcs⟩, hsteps, by subst hfr; rfl, ?_⟩
      subst hfr
      refine ⟨rfl, rfl, fn, hf, ?_⟩
      have hres' : fn.results = #[] := Array.toList_inj.1 (by simpa using hres)
      simp [results, hres']
    rcases hdone with ⟨F', ho⟩ | ⟨F', ho⟩
    · rw [ho] at hl
      obtain ⟨σ', a', w', hFn, hS, harr⟩ := hl
      exact fin (todo := []) hFn hS rfl (Steps.trans harr (.one step_end))
    · rw [ho] at hl
      obtain ⟨σ', a', w', hFn, hS, todo, harr⟩ := hl
      exact fin hFn hS rfl harr

/-- A hook's word for the functions that it stands for. -/
def HkOk (P : Program) (hk : FuncId → Option (List Value → Heap → AEnd)) : Prop :=
  ∀ f g args H, hk f = some g → g args H ≠ .none → (enters P f).isSome ∧ ∀ σ w, Rep P σ H w → (∀ v ∈ args, Stab H.next v) → Calls P f ⟨args.map (ren σ)⟩ w (EndPost P σ H w (g args H))

def SoundC (P : Program) (r : Rec) : Prop := ∀ f args H, r.call f args H ≠ .none → (enters P f).isSome ∧
  ∀ σ w, Rep P σ H w → (∀ v ∈ args, Stab H.next v) → Calls P f ⟨args.map (ren σ)⟩ w (EndPost P σ H w (r.call f args H))

theorem SoundC.toCall {r : Rec} (h : SoundC P r) : SoundCall P r := by
  intro f args H hne
  obtain ⟨h1, h2⟩ := h f args H hne
  refine ⟨h1, fun σ w hR hst => ⟨fun v H' e => ?_, fun v H' e => ?_⟩⟩
  · have := h2 σ w hR hst
    rw [e] at this
    exact this
  · have := h2 σ w hR hst
    rw [e] at this
    exact this

structure Sound (P : Program) (r : Rec) : Prop where
  ops : SoundOps P r
  code : SoundCode P r
  call : SoundC P r
  dcall : SoundDcall P r
  defers : SoundDefers P r

theorem sound_none : Sound P Rec.none where
  ops := fun _ _ _ _ _ _ _ _ _ _ _ _ _ _ _ _ => trivial
  code := fun _ _ _ _ _ _ _ _ _ _ _ _ _ _ _ => trivial
  call := fun _ _ _ h => absurd rfl h
  dcall := fun _ _ _ _ _ _ h => by cases h
  defers := fun _ _ _ _ _ h => absurd rfl h

theorem sound_run (hdraw : ∀ r, SoundCall P r → SoundDraw P r) {hk : FuncId → Option (List Value → Heap → AEnd)} (hhk : HkOk P hk) : ∀ n, Sound P (run P hk n) := by
  intro n
  induction n with
  | zero => exact sound_none
  | succ n ih =>
    show Sound P (stepRec P hk (run P hk n))
    exact {
      ops := sound_ops ih.ops ih.call.toCall
      code := sound_code ih.code ih.ops (hdraw _ ih.call.toCall)
      call := sound_call ih.code ih.defers hhk
      dcall := sound_dcall ih.code
      defers := sound_defers ih.dcall ih.defers }

end
end
end Go.Proofs.YtibeinbfhhoeiaaGreatDoor.Ab

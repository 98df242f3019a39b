/- Regions whose order is drawn, 1: operations that make something fresh, that only look, that are calls; heaps joined and parted. Regions whose order is drawn, 2: what the run in text order says. Regions whose order is drawn, 3: facts of the run in text order. Regions whose order is drawn, 4: what holds while the region runs in whichever order. Regions whose order is drawn, 5: an operation looks at its operands alone. -/
import Derived.Test.YtibeinbfhhoeiaaGreatDoorZA4
namespace Go.Proofs.YtibeinbfhhoeiaaGreatDoor.Ab
open Go Go.Conc
noncomputable section

/- ## heaps joined and parted -/
theorem Rep.sig {P : Program} {σ σ' : Sig} {H : Heap} {w : World} (h : Rep P σ H w) (hs : ∀ i, i < H.next → σ i = σ' i) : Rep P σ' H w where
  obj id o ho := (h.obj id o ho).of_sig hs (h.lt id o ho) (h.stab id o ho)
  lt := h.lt
  apart i j oi oj hij hi hj h1 h2 := by
    rw [← hs i (h.lt i oi hi), ← hs j (h.lt j oj hj)]
    exact h.apart i j oi oj hij hi hj h1 h2
  stab := h.stab
  glob := h.glob.sig hs

theorem Rep.sub {P : Program} {σ : Sig} {H H' : Heap} {w : World} (h : Rep P σ H w) (hn : P.globals.size ≤ H'.next) (hg : ∀ id o, H'.get id = some o → H.get id = some o ∧ id < H'.next ∧ StabObj H'.next o) : Rep P σ H' w where
  obj id o ho := h.obj id o (hg id o ho).1
  lt id o ho := (hg id o ho).2.1
  apart i j oi oj hij hi hj h1 h2 := h.apart i j oi oj hij (hg i oi hi).1 (hg j oj hj).1 h1 h2
  stab id o ho := (hg id o ho).2.2
  glob := ⟨hn, h.glob.2⟩

theorem Rep.keep {P : Program} {σ : Sig} {H : Heap} {w w' : World} (h : Rep P σ H w) (hb : ∀ id o, H.get id = some o → o.live = true → w'.heap[(σ id).blk]? = w.heap[(σ id).blk]?) : Rep P σ H w' where
  obj id o ho := by
    by_cases hl : o.live = true
    · exact (h.obj id o ho).of_heap (hb id o ho hl)
    · cases o with
      | row cells elem kind => cases kind <;> first | exact absurd rfl hl | exact .inl rfl
      | map es => exact absurd rfl hl
      | chan cap buf => exact absurd rfl hl
  lt := h.lt
  apart := h.apart
  stab := h.stab
  glob := h.glob

theorem Rep.join {P : Program} {σ : Sig} {H1 H2 H : Heap} {w : World} (h1 : Rep P σ H1 w) (h2 : Rep P σ H2 w) (hg : ∀ id o, H.get id = some o → H1.get id = some o ∨ H2.get id = some o)
    (n1 : H1.next ≤ H.next) (n2 : H2.next ≤ H.next)
    (hap : ∀ i j o1 o2, i ≠ j → H1.get i = some o1 → H2.get j = some o2 → (o1.live = true → o2.own = true → (σ i).blk ≠ (σ j).blk) ∧ (o2.live = true → o1.own = true → (σ j).blk ≠ (σ i).blk)) : Rep P σ H w where
  obj id o ho := by
    rcases hg id o ho with h | h
    · exact h1.obj id o h
    · exact h2.obj id o h
  lt id o ho := by
    rcases hg id o ho with h | h
    · exact Nat.lt_of_lt_of_le (h1.lt id o h) n1
    · exact Nat.lt_of_lt_of_le (h2.lt id o h) n2
  apart i j oi oj hij hi hj hl hw := by
    rcases hg i oi hi with hi | hi <;> rcases hg j oj hj with hj | hj
    · exact h1.apart i j oi oj hij hi hj hl hw
    · exact (hap i j oi oj hij hi hj).1 hl hw
    · exact (hap j i oj oi (Ne.symm hij) hj hi).2 hl hw
    · exact h2.apart i j oi oj hij hi hj hl hw
  stab id o ho := by
    rcases hg id o ho with h | h
    · exact (h1.stab id o h).mono n1
    · exact (h2.stab id o h).mono n2
  glob := h1.glob.mono n1

theorem rep_empty (P : Program) (σ : Sig) (n : Nat) (w : World) (hg : GlobOk P σ n) : Rep P σ ⟨.lf, n⟩ w where
  obj id o ho := by cases ho
  lt id o ho := by cases ho
  apart i j oi oj _ hi := by cases hi
  stab id o ho := by cases ho
  glob := hg

/- ## what is fresh -/
def DoesFN (P : Program) (σ : Sig) (H : Heap) (w : World) (m : Sem Next) (v : Value) (H' : Heap) : Prop :=
  ∃ w', m.run P w = .ok (.value (ren (upd σ H.next ⟨w.heap.size, 0, 0⟩) v)) w' ∧ Rep P (upd σ H.next ⟨w.heap.size, 0, 0⟩) H' w' ∧ Stp σ H w (upd σ H.next ⟨w.heap.size, 0, 0⟩) H' w' ∧ Stab H'.next v

theorem DoesF.next {P : Program} {σ : Sig} {H H' : Heap} {w : World} {m : Sem Value} {v : Value} (h : DoesF P σ H w m v H') : DoesFN P σ H w (do pure (Next.value (← m))) v H' := by
  obtain ⟨w', h1, h2, h3⟩ := h
  exact ⟨w', by rw [Sem.run_bind, h1]; rfl, h2, h3⟩

theorem does_fresh {P : Program} {ρ : Operand → Option Value} {ρr : Operand → Value} {σ : Sig} {H H' : Heap} {w : World} {o : Oper} {v : Value}
    (hρ : ∀ x y, ρ x = some y → ρr x = ren σ y) (hst : ∀ x y, ρ x = some y → Stab H.next y) (hR : Rep P σ H w) (hc : clOf o.op = .fresh) (h : xheap P ρ H o = some (v, H')) :
    DoesFN P σ H w (execOp ρr o) v H' ∧ ∃ obj, H' = H.alloc obj ∧ obj.own = true := by
  unfold xheap at h
  unfold execOp
  cases he : o.op <;> rw [he] at hc h <;> simp only [clOf] at hc <;> try cases hc
  case call c => split at hc <;> cases hc
  case alloc t =>
    simp only at h ⊢
    refine ⟨(does_alloc hR h).next, ?_⟩
    unfold xalloc at h
    split at h
    · simp only [xnewVar, Option.some.injEq, Prod.mk.injEq] at h; exact ⟨_, h.2.symm, rfl⟩
    · cases h
  case box t x =>
    simp only at h ⊢
    unfold xhBox at h
    split at h
    · rename_i a ha
      simp only [Option.some.injEq] at h
      rw [hρ _ _ ha]
      have := does_box hR (t := t) (hst _ _ ha)
      rw [h] at this
      refine ⟨this.next, ?_⟩
      simp only [xnewVar, Prod.mk.injEq] at h
      exact ⟨_, h.2.symm, rfl⟩
    · cases h
  case buildSlice t len parts =>
    simp only at h ⊢
    unfold xhBuildSlice at h
    split at h
    · rename_i l hl
      have hp := xparts_ren hρ _ _ hl
      have e : parts.map (fun x => (x.1, ρr x.2)) = (l.map fun p => (p.1, ren σ p.2)).toArray := by
        rw [← hp, ← Array.toList_map]
      have e2 : (parts.map fun (i, x) => (i, ρr x)) = (l.map fun p => (p.1, ren σ p.2)).toArray := e
      rw [e2]
      refine ⟨(does_buildSlice hR h (xparts_mem hst _ _ hl)).next, ?_⟩
      unfold xbuildSlice at h
      repeat' split at h
      all_goals first
        | (simp only [Option.some.injEq, Prod.mk.injEq] at h; exact ⟨_, h.2.symm, rfl⟩)
        | cases h
    · cases h
  case makeSlice t l c =>
    simp only at h ⊢
    unfold xhMakeSlice at h
    split at h
    · rename_i a b ha hb
      rw [hρ _ _ ha, hρ _ _ hb]
      refine ⟨(does_makeSlice hR h).next, ?_⟩
      unfold xmakeSlice at h
      repeat' split at h
      all_goals first
        | (simp only [Option.some.injEq, Prod.mk.injEq] at h; exact ⟨_, h.2.symm, rfl⟩)
        | cases h
    · cases h
  case makeMap t r =>
    simp only at h ⊢
    unfold xhMakeMap at h
    split at h
    · rename_i r' hr
      rw [xoptv_ren hρ hr]
      refine ⟨(does_makeMap hR h).next, ?_⟩
      unfold xmakeMap at h
      repeat' split at h
      all_goals first
        | (simp only [Option.some.injEq, Prod.mk.injEq] at h; exact ⟨_, h.2.symm, rfl⟩)
        | cases h
    · cases h
  case makeChan t s =>
    simp only at h ⊢
    unfold xhMakeChan at h
    split at h
    · rename_i a ha
      rw [hρ _ _ ha]
      refine ⟨(does_makeChan hR h).next, ?_⟩
      unfold xmakeChan at h
      repeat' split at h
      all_goals first
        | (simp only [Option.some.injEq, Prod.mk.injEq] at h; exact ⟨_, h.2.symm, rfl⟩)
        | cases h
    · cases h

/- ## what only looks -/
theorem does_look {P : Program} {ρ : Operand → Option Value} {ρr : Operand → Value} {σ : Sig} {H : Heap} {w : World} {o : Oper} {v : Value}
    (hρ : ∀ x y, ρ x = some y → ρr x = ren σ y) (hst : ∀ x y, ρ x = some y → Stab H.next y) (hR : Rep P σ H w) (hc : clOf o.op = .read ∨ clOf o.op = .conv) (h : xlook P ρ H o = some v) :
    (execOp ρr o).run P w = .ok (.value (ren σ v)) w ∧ Stab H.next v := by
  unfold xlook at h
  split at h
  · rename_i u H' hx
    split at h
    · rename_i hn
      simp only [Option.some.injEq] at h
      subst h
      have hn := Nat.eq_of_beq_eq_true hn
      have key : ∀ {m : Sem Value}, m.run P w = .ok (ren σ u) w → ((do pure (Next.value (← m))) : Sem Next).run P w = .ok (.value (ren σ u)) w := by
        intro m hm
        rw [Sem.run_bind, hm]; rfl
      unfold xheap at hx
      unfold execOp
      cases he : o.op <;> rw [he] at hc hx <;> simp only [clOf] at hc <;> try (rcases hc with hc | hc <;> cases hc)
      case call c =>
        have hcal : c.callee = .builtin .len := by
          rcases hc with hc | hc <;> split at hc <;> first
            | assumption
            | (cases hc; done)
        simp only [xhCall, hcal] at hx ⊢
        unfold xhLen at hx
        split at hx
        · rename_i x t hl ht
          split at hx
          · rename_i u' hu
            simp only [Option.some.injEq, Prod.mk.injEq] at hx
            obtain ⟨rfl, rfl⟩ := hx
            have e : c.args.map ρr = ⟨[x].map (ren σ)⟩ := by rw [← xlist_ren hρ _ _ hl, ← Array.toList_map]
            simp only [resolve, hcal, e]
            obtain ⟨h1, h2⟩ := run_xlenH (ty := o.type) hR ht hu
            exact ⟨key (by rw [ren_clo σ _ h2]; exact h1), Stab.clo h2⟩
          · cases hx
        · cases hx
      case h_1.load.inl.intro t x =>
        simp only at hx ⊢
        unfold xhLoad at hx
        split at hx
        · rename_i a ha
          split at hx
          · rename_i u' hu
            simp only [Option.some.injEq, Prod.mk.injEq] at hx
            obtain ⟨rfl, rfl⟩ := hx
            rw [hρ _ _ ha]
            obtain ⟨h1, h2⟩ := run_xload hR hu
            exact ⟨key h1, h2⟩
          · cases hx
        · cases hx
      case h_1.lookup.inl.intro t x k ok =>
        simp only at hx ⊢
        unfold xhLookup at hx
        split at hx
        · rename_i a b ha hb
          split at hx
          · rename_i u' hu
            simp only [Option.some.injEq, Prod.mk.injEq] at hx
            obtain ⟨rfl, rfl⟩ := hx
            rw [hρ _ _ ha, hρ _ _ hb]
            obtain ⟨h1, h2⟩ := run_xlookup hR hu
            exact ⟨key h1, h2⟩
          · cases hx
        · cases hx
      case h_1.slice.inl.intro t x lo hi mx =>
        simp only at hx ⊢
        unfold xhSlice at hx
        split at hx
        · rename_i a l hh m ha hl hh' hm
          rw [hρ _ _ ha, xoptv_ren hρ hl, xoptv_ren hρ hh', xoptv_ren hρ hm]
          obtain ⟨h1, h2⟩ := does_sliceS hR hx (hst _ _ ha)
          obtain ⟨h3, h4⟩ := h2 hn
          obtain ⟨_, _, _, _, _, h5⟩ := h1
          exact ⟨key h4, h3 ▸ h5⟩
        · cases hx
      case h_1.convert.inr.intro s d x =>
        simp only at hx ⊢
        unfold xhConv at hx
        split at hx
        · rename_i a ha
          split at hx
          · rename_i u' hu
            simp only [Option.some.injEq, Prod.mk.injEq] at hx
            obtain ⟨rfl, rfl⟩ := hx
            rw [hρ _ _ ha]
            obtain ⟨h1, h2⟩ := run_xstring hR hu
            exact ⟨key (by rw [h1, ren_clo σ _ h2]), .clo h2⟩
          · cases hx
        · cases hx
    · cases h
  · cases h

mutual
theorem veq_eq : ∀ a b : Value, veq a b = true → a = b
  | .bool a, b, h => by cases b <;> simp_all [veq]
  | .int k a, b, h => by cases b <;> simp_all [veq]
  | .string a, b, h => by cases b <;> simp_all [veq]
  | .pointer a, b, h => by cases b <;> simp_all [veq]
  | .slice a l c, b, h => by cases b <;> simp_all [veq]
  | .map a, b, h => by cases b <;> simp_all [veq]
  | .chan a, b, h => by cases b <;> simp_all [veq]
  | .float k a, b, h => by cases b <;> simp_all [veq]
  | .complex k x y, b, h => by cases b <;> simp_all [veq]
  | .nilFunc, b, h => by cases b <;> simp_all [veq]
  | .nilIface, b, h => by cases b <;> simp_all [veq]
  | .func f x y, b, h => by
    cases b with
    | func g c d =>
      simp only [veq, Bool.and_eq_true, decide_eq_true_eq] at h
      rw [h.1.1, veqA_eq x c h.1.2, veqA_eq y d h.2]
    | _ => simp [veq] at h
  | .agg x, b, h => by
    cases b with
    | agg c => simp only [veq] at h; rw [veqA_eq x c h]
    | _ => simp [veq] at h
  | .tuple x, b, h => by
    cases b with
    | tuple c => simp only [veq] at h; rw [veqA_eq x c h]
    | _ => simp [veq] at h
  | .iface t x, b, h => by
    cases b with
    | iface u c => simp only [veq, Bool.and_eq_true] at h; rw [Nat.eq_of_beq_eq_true h.1, veq_eq x c h.2]
    | _ => simp [veq] at h
theorem veqA_eq : ∀ a b : Array Value, veqA a b = true → a = b
  | ⟨a⟩, ⟨b⟩, h => by simp only [veqA] at h; rw [veqL_eq a b h]
theorem veqL_eq : ∀ a b : List Value, veqL a b = true → a = b
  | [], b, h => by cases b <;> simp_all [veqL]
  | x :: l, b, h => by
    cases b with
    | nil => simp [veqL] at h
    | cons y m =>
      simp only [veqL, Bool.and_eq_true] at h
      rw [veq_eq x y h.1, veqL_eq l m h.2]
end

theorem looks_eq {P : Program} {ρ : Operand → Option Value} {H : Heap} {o : Oper} {v : Value} (h : looks P ρ H o v = true) : xlook P ρ H o = some v := by
  unfold looks at h
  split at h
  · rename_i u hu; rw [hu, veq_eq u v h]
  · cases h

end
end Go.Proofs.YtibeinbfhhoeiaaGreatDoor.Ab

namespace Go.Proofs.YtibeinbfhhoeiaaGreatDoor.Ab
open Go Go.Conc
noncomputable section

/-- An effect: on the heap, or a call. -/
def doE (P : Program) (r : Rec) (F : Fr) (o : Oper) (H : Heap) : Option (Value × Heap) := match clOf o.op with
  | .effect => xheap P (F.ev P) H o
  | .call => match o.op with
    | .call c => dEnd (soCall P r (F.ev P) c o.type [] H .norm)
    | _ => none
  | _ => none

section
variable (P : Program) (r : Rec) (n : Nat) (ops : Array Oper) (i m : Nat) (o : Oper) (s s' : DS) (v : Value) (F' : Fr)

def DidPure : Prop := s' = ⟨F', s.H, s.As, s.next, s.Es, s.Rs⟩ ∧ ((guardB ops s.F o.guard = some false ∧ v = undef) ∨ (guardB ops s.F o.guard = some true ∧ xpure P (s.F.ev P) o = some v))
def DidLook : Prop := guardB ops s.F o.guard = some true ∧ (clOf o.op = .read ∨ clOf o.op = .conv) ∧ xlook P (s.F.ev P) ⟨viewT s.H.t s.H.next (bit m) s.As, s.next⟩ o = some v ∧
  back P s.F o v m s.As s.next s.Es = true ∧ s' = ⟨F', s.H, s.As, s.next, s.Es, ⟨i, o, v, s.F⟩ :: s.Rs⟩
def DidFresh : Prop := guardB ops s.F o.guard = some true ∧ clOf o.op = .fresh ∧ ∃ H' obj, xheap P (s.F.ev P) ⟨.lf, s.next⟩ o = some (v, H') ∧ H'.get s.next = some obj ∧
  s' = ⟨F', s.H, ⟨i, s.next, obj⟩ :: s.As, s.next + 1, s.Es, s.Rs⟩
def DidEffect : Prop := guardB ops s.F o.guard = some true ∧ chained m s.Es = true ∧ covers s.H.next m s.As = true ∧
  ∃ H', doE P r s.F o ⟨viewT s.H.t s.H.next (bit m) s.As, s.next⟩ = some (v, H') ∧ forth P H' m s.Rs = true ∧ s.next ≤ H'.next ∧
    s' = ⟨F', H', s.As, H'.next, ⟨i, s.H⟩ :: s.Es, s.Rs⟩
end

section
variable {P : Program} {r : Rec} {n : Nat} {ops : Array Oper}

theorem dPure_spec {o : Oper} {x : Option Value} {F : Fr} {H : Heap} {As : List Fresh} {next : Nat} {Es : List Was} {Rs : List Looked} {s' : DS}
    (h : dPure n o x F H As next Es Rs = some s') : ∃ v F', x = some v ∧ dput n F o.dst v = some F' ∧ s' = ⟨F', H, As, next, Es, Rs⟩ := by
  unfold dPure at h
  split at h
  · split at h
    · rename_i v F' hF
      simp only [Option.some.injEq] at h
      exact ⟨_, F', rfl, hF, h.symm⟩
    · cases h
  · cases h

theorem dRead_spec {i m : Nat} {o : Oper} {F : Fr} {H : Heap} {As : List Fresh} {next : Nat} {Es : List Was} {Rs : List Looked} {s' : DS}
    (h : dRead P n i m o F H As next Es Rs = some s') : ∃ v F', dput n F o.dst v = some F' ∧ xlook P (F.ev P) ⟨viewT H.t H.next (bit m) As, next⟩ o = some v ∧ back P F o v m As next Es = true ∧
      s' = ⟨F', H, As, next, Es, ⟨i, o, v, F⟩ :: Rs⟩ := by
  unfold dRead at h
  split at h
  · rename_i v hv
    split at h
    · rename_i hb
      split at h
      · rename_i F' hF
        simp only [Option.some.injEq] at h
        exact ⟨v, F', hF, hv, hb, h.symm⟩
      · cases h
    · cases h
  · cases h

theorem dEffect_spec {i m : Nat} {o : Oper} {x : Heap → Option (Value × Heap)} {F : Fr} {H : Heap} {As : List Fresh} {next : Nat} {Es : List Was} {Rs : List Looked} {s' : DS}
    (h : dEffect P n i m o x F H As next Es Rs = some s') : ∃ v F', dput n F o.dst v = some F' ∧ chained m Es = true ∧ covers H.next m As = true ∧
      ∃ H', x ⟨viewT H.t H.next (bit m) As, next⟩ = some (v, H') ∧ forth P H' m Rs = true ∧ next ≤ H'.next ∧ s' = ⟨F', H', As, H'.next, ⟨i, H⟩ :: Es, Rs⟩ := by
  unfold dEffect at h
  split at h
  · rename_i h1 h2
    split at h
    · rename_i v H' hx
      split at h
      · rename_i F' h3 h4 h5
        simp only [Option.some.injEq] at h
        exact ⟨v, F', h4, h1, h2, H', hx, h3, Nat.le_of_ble_eq_true h5, h.symm⟩
      · cases h
    · cases h
  · cases h

theorem dStep_did {i m : Nat} {o : Oper} {s s' : DS} (h : dStep P r n ops i m o s.F s.H s.As s.next s.Es s.Rs = some s') :
    ∃ v F', dput n s.F o.dst v = some F' ∧ s'.F = F' ∧ (DidPure P ops o s s' v F' ∨ DidLook P ops i m o s s' v F' ∨ DidFresh P ops i o s s' v F' ∨ DidEffect P r ops i m o s s' v F') := by
  unfold dStep at h
  split at h
  · rename_i hg
    unfold dOp at h
    split at h
    · obtain ⟨v, F', hx, hF, rfl⟩ := dPure_spec h
      exact ⟨v, F', hF, rfl, .inl ⟨rfl, .inr ⟨hg, hx⟩⟩⟩
    · rename_i hc
      obtain ⟨v, F', hF, h1, h2, rfl⟩ := dRead_spec h
      exact ⟨v, F', hF, rfl, .inr (.inl ⟨hg, .inl hc, h1, h2, rfl⟩)⟩
    · rename_i hc
      split at h
      · rename_i u hu
        obtain ⟨v, F', hx, hF, rfl⟩ := dPure_spec h
        cases hx
        exact ⟨u, F', hF, rfl, .inl ⟨rfl, .inr ⟨hg, hu⟩⟩⟩
      · obtain ⟨v, F', hF, h1, h2, rfl⟩ := dRead_spec h
        exact ⟨v, F', hF, rfl, .inr (.inl ⟨hg, .inr hc, h1, h2, rfl⟩)⟩
    · rename_i hc
      unfold dFresh at h
      split at h
      · rename_i v H' hx
        split at h
        · rename_i obj F' h1 h2 h3
          simp only [Option.some.injEq] at h
          exact ⟨v, F', h3, by rw [← h], .inr (.inr (.inl ⟨hg, hc, H', obj, hx, h1, h.symm⟩))⟩
        · cases h
      · cases h
    · rename_i hc
      obtain ⟨v, F', hF, h1, h2, H', h3, h4, h5, rfl⟩ := dEffect_spec h
      refine ⟨v, F', hF, rfl, .inr (.inr (.inr ⟨hg, h1, h2, H', ?_, h4, h5, rfl⟩))⟩
      simp only [doE, hc]; exact h3
    · rename_i hc
      split at h
      · rename_i c hop
        obtain ⟨v, F', hF, h1, h2, H', h3, h4, h5, rfl⟩ := dEffect_spec h
        refine ⟨v, F', hF, rfl, .inr (.inr (.inr ⟨hg, h1, h2, H', ?_, h4, h5, rfl⟩))⟩
        rw [hop] at hc
        simp only [doE, hop, hc]; exact h3
      · cases h
    · cases h
  · rename_i hg
    obtain ⟨v, F', hx, hF, rfl⟩ := dPure_spec h
    cases hx
    exact ⟨_, F', hF, rfl, .inl ⟨rfl, .inl ⟨hg, rfl⟩⟩⟩
  · cases h

theorem dOps_trace : ∀ (l : List Oper) (ms : List Nat) (i : Nat) (s sf : DS), dOps P r n ops l ms i s = some sf →
    ∃ T : Nat → DS, T i = s ∧ T (i + l.length) = sf ∧ ∀ j o, l[j]? = some o → ∃ m, ms[j]? = some m ∧
      dStep P r n ops (i + j) m o (T (i + j)).F (T (i + j)).H (T (i + j)).As (T (i + j)).next (T (i + j)).Es (T (i + j)).Rs = some (T (i + j + 1)) := by
  intro l
  induction l with
  | nil =>
    intro ms i s sf h
    simp only [dOps, Option.some.injEq] at h
    exact ⟨fun _ => s, rfl, h, fun j o hj => by simp at hj⟩
  | cons o l ih =>
    intro ms i s sf h
    cases ms with
    | nil => simp [dOps] at h
    | cons m ms =>
      simp only [dOps] at h
      split at h
      · rename_i s' hs'
        obtain ⟨T, hT0, hT1, hT⟩ := ih ms (i + 1) s' sf h
        refine ⟨fun k => if k = i then s else T k, by simp, ?_, ?_⟩
        · simp only [List.length_cons]
          rw [if_neg (by omega), ← hT1]
          congr 1; omega
        · intro j o' hj
          cases j with
          | zero =>
            simp only [List.getElem?_cons_zero, Option.some.injEq] at hj
            subst hj
            refine ⟨m, rfl, ?_⟩
            simp only [Nat.add_zero, if_pos]
            rw [if_neg (by omega), hT0]
            exact hs'
          | succ j =>
            simp only [List.getElem?_cons_succ] at hj
            obtain ⟨m', hm', hd⟩ := hT j o' hj
            refine ⟨m', by simpa using hm', ?_⟩
            have e : i + (j + 1) = i + 1 + j := by omega
            have e1 : ¬ i + 1 + j = i := by omega
            have e2 : ¬ i + 1 + j + 1 = i := by omega
            rw [e]
            simp only [e1, e2, if_false]
            exact hd
      · cases h

/- ## masks -/
theorem bit_eq (m i : Nat) : bit m i = m.testBit i := by
  unfold bit
  have h1 : Nat.shiftRight m i = m >>> i := rfl
  have h2 : Nat.mod (m >>> i) 2 = (m >>> i) % 2 := rfl
  rw [h1, h2, Nat.testBit_eq_decide_div_mod_eq, Nat.shiftRight_eq_div_pow]
  cases hb : Nat.beq (m / 2 ^ i % 2) 1 with
  | true => simp [Nat.eq_of_beq_eq_true hb]
  | false =>
    have : ¬ m / 2 ^ i % 2 = 1 := fun e => by rw [e] at hb; cases hb
    simp [this]

theorem maskOf_bit {acc : List Nat} : ∀ {es : List Edge} {j : Nat}, bit (maskOf acc es) j = true → ∃ e ∈ es, Region.binds .any e = true ∧ (e.on = j ∨ ∃ me, acc[e.on]? = some me ∧ bit me j = true) := by
  intro es
  induction es with
  | nil => intro j h; simp [maskOf, bit_eq] at h
  | cons e l ih =>
    intro j h
    simp only [maskOf] at h
    split at h
    · rename_i hb
      rw [bit_eq] at h
      have h' : (((2 ^ e.on) ||| ((nth e.on acc).getD 0)) ||| (maskOf acc l)).testBit j = true := h
      rw [Nat.testBit_or, Nat.testBit_or, Bool.or_eq_true, Bool.or_eq_true] at h'
      rcases h' with (h' | h') | h'
      · rw [Nat.testBit_two_pow] at h'
        exact ⟨e, .head _, hb, .inl (by simpa using h')⟩
      · rw [nth_eq] at h'
        cases ha : acc[e.on]? with
        | none => rw [ha] at h'; simp at h'
        | some me => rw [ha] at h'; exact ⟨e, .head _, hb, .inr ⟨me, ha, by rw [bit_eq]; exact h'⟩⟩
      · obtain ⟨e', he', h⟩ := ih (by rw [bit_eq]; exact h')
        exact ⟨e', .tail _ he', h⟩
    · obtain ⟨e', he', h⟩ := ih h
      exact ⟨e', .tail _ he', h⟩

theorem masksFrom_spec : ∀ (l : List Oper) (acc : List Nat), (∀ (j x : Nat), acc[j]? = some x → (masksFrom acc l)[j]? = some x) ∧ (masksFrom acc l).length = acc.length + l.length ∧
    ∀ (j : Nat) o, l[j]? = some o → ∃ acc' : List Nat, (masksFrom acc l)[acc.length + j]? = some (maskOf acc' o.after.toList) ∧ ∀ (k x : Nat), acc'[k]? = some x → (masksFrom acc l)[k]? = some x := by
  intro l
  induction l with
  | nil => intro acc; exact ⟨fun j x h => h, by simp [masksFrom], fun j o h => by simp at h⟩
  | cons o l ih =>
    intro acc
    obtain ⟨h1, h2, h3⟩ := ih (acc ++ [maskOf acc o.after.toList])
    have hk : ∀ (j x : Nat), acc[j]? = some x → (masksFrom acc (o :: l))[j]? = some x := fun j x hj => by
      have hlt := (List.getElem?_eq_some_iff.1 hj).1
      exact h1 j x (by rw [List.getElem?_append_left hlt]; exact hj)
    refine ⟨hk, by simp only [masksFrom]; rw [h2]; simp; omega, fun j o' hj => ?_⟩
    cases j with
    | zero =>
      simp only [List.getElem?_cons_zero, Option.some.injEq] at hj
      subst hj
      refine ⟨acc, h1 _ _ (by simp), hk⟩
    | succ j =>
      simp only [List.getElem?_cons_succ] at hj
      obtain ⟨acc', h4, h5⟩ := h3 j o' hj
      refine ⟨acc', ?_, h5⟩
      have e : acc.length + (j + 1) = (acc ++ [maskOf acc o.after.toList]).length + j := by simp; omega
      rw [e]
      exact h4

theorem befores_bit {i : Nat} {o : Oper} (ho : ops[i]? = some o) {m : Nat} (hm : (befores ops)[i]? = some m) {j : Nat} (hb : bit m j = true) :
    ∃ e ∈ o.after.toList, Region.binds .any e = true ∧ (e.on = j ∨ ∃ me, (befores ops)[e.on]? = some me ∧ bit me j = true) := by
  obtain ⟨_, _, h3⟩ := masksFrom_spec ops.toList []
  obtain ⟨acc', h4, h5⟩ := h3 i o (by simpa using ho)
  simp only [List.length_nil, Nat.zero_add] at h4
  rw [befores] at hm
  rw [h4] at hm
  cases hm
  obtain ⟨e, he, hbd, hor⟩ := maskOf_bit hb
  refine ⟨e, he, hbd, hor.imp id fun ⟨me, h, hb⟩ => ⟨me, h5 _ _ h, hb⟩⟩

theorem memN_iff {d : Nat} : ∀ {l : List Nat}, memN d l = true ↔ d ∈ l := by
  intro l
  induction l with
  | nil => simp [memN]
  | cons x l ih =>
    simp only [memN]
    split
    · rename_i h; have := Nat.eq_of_beq_eq_true h; subst this; simp
    · rename_i h
      have hne : d ≠ x := fun e => by rw [e, Nat.beq_refl] at h; cases h
      rw [ih]; simp [hne]

theorem orderedW_spec {d m i : Nat} : ∀ {l : List Oper} {ms : List Nat} {k : Nat}, orderedW ops d m i l ms k = true → ∀ j o, l[j]? = some o → k + j ≠ i → ∃ mj, ms[j]? = some mj ∧
    o.dst ≠ some d ∧ (d ∈ readsOf ops o → (i < k + j → bit mj i = true) ∧ (k + j < i → bit m (k + j) = true)) := by
  intro l
  induction l with
  | nil => intro ms k _ j o hj; simp at hj
  | cons o l ih =>
    intro ms k h j o' hj hne
    cases ms with
    | nil => simp [orderedW] at h
    | cons mj ms =>
      simp only [orderedW] at h
      cases j with
      | zero =>
        simp only [List.getElem?_cons_zero, Option.some.injEq] at hj
        subst hj
        split at h
        · rename_i hb; exact absurd (Nat.eq_of_beq_eq_true hb).symm hne
        · rename_i hb
          simp only [Bool.and_eq_true, Bool.or_eq_true, Bool.not_eq_true'] at h
          obtain ⟨⟨h1, h2⟩, _⟩ := h
          refine ⟨mj, rfl, ?_, fun hd => ?_⟩
          · intro e
            rw [e] at h1
            simp only [Bool.not_eq_true', Nat.beq_refl] at h1
            cases h1
          · have := h2.resolve_left (by rw [memN_iff.2 hd]; simp)
            split at this
            · rename_i hle
              have := Nat.le_of_ble_eq_true hle
              exact ⟨fun _ => by assumption, fun hlt => absurd hlt (by omega)⟩
            · rename_i hle
              have hlt : ¬ i ≤ k := fun h => by rw [Nat.ble_eq_true_of_le h] at hle; cases hle
              exact ⟨fun hlt' => absurd hlt' (by omega), fun _ => by assumption⟩
      | succ j =>
        simp only [List.getElem?_cons_succ] at hj
        have hrest : orderedW ops d m i l ms (k + 1) = true := by
          split at h
          · exact h
          · simp only [Bool.and_eq_true] at h; exact h.2
        obtain ⟨mj', h1, h2⟩ := ih hrest j o' hj (by omega)
        have e : k + (j + 1) = k + 1 + j := by omega
        rw [e]
        exact ⟨mj', by simpa using h1, h2⟩

theorem earlier_spec {i : Nat} : ∀ {es : List Edge}, earlier i es = true → ∀ e ∈ es, Region.binds .any e = true → e.on < i := by
  intro es
  induction es with
  | nil => intro _ e he; cases he
  | cons x l ih =>
    intro h e he hb
    simp only [earlier, Bool.and_eq_true, Bool.or_eq_true, Bool.not_eq_true'] at h
    cases he with
    | head => rcases h.1 with h1 | h1
              · rw [hb] at h1; cases h1
              · exact Nat.blt_eq ▸ h1
    | tail _ he => exact ih h.2 e he hb

theorem orderedAll_spec {b : List Nat} : ∀ {l : List Oper} {ms : List Nat} {k : Nat}, orderedAll ops b l ms k = true → ∀ j o, l[j]? = some o → ∃ m, ms[j]? = some m ∧
    (∀ d, o.dst = some d → orderedW ops d m (k + j) ops.toList b 0 = true) ∧ earlier (k + j) o.after.toList = true := by
  intro l
  induction l with
  | nil => intro ms k _ j o hj; simp at hj
  | cons o l ih =>
    intro ms k h j o' hj
    cases ms with
    | nil => simp [orderedAll] at h
    | cons m ms =>
      simp only [orderedAll, Bool.and_eq_true] at h
      obtain ⟨⟨h1, h2⟩, h3⟩ := h
      cases j with
      | zero =>
        simp only [List.getElem?_cons_zero, Option.some.injEq] at hj
        subst hj
        refine ⟨m, rfl, fun d hd => ?_, h2⟩
        rw [hd] at h1
        exact h1
      | succ j =>
        simp only [List.getElem?_cons_succ] at hj
        obtain ⟨m', h4, h5, h6⟩ := ih h3 j o' hj
        have e : k + (j + 1) = k + 1 + j := by omega
        rw [e]
        exact ⟨m', by simpa using h4, h5, h6⟩

/-- What 'orderly' says. -/
theorem orderly_spec (h : orderly ops = true) {i : Nat} {o : Oper} (ho : ops[i]? = some o) : ∃ m, (befores ops)[i]? = some m ∧
    (∀ e ∈ o.after.toList, Region.binds .any e = true → e.on < i) ∧
    ∀ d, o.dst = some d → ∀ j oj, ops[j]? = some oj → j ≠ i → ∃ mj, (befores ops)[j]? = some mj ∧ oj.dst ≠ some d ∧ (d ∈ readsOf ops oj → (i < j → bit mj i = true) ∧ (j < i → bit m j = true)) := by
  obtain ⟨m, h1, h2, h3⟩ := orderedAll_spec h i o (by simpa using ho)
  refine ⟨m, h1, ?_, fun d hd j oj hj hne => ?_⟩
  · have := earlier_spec h3
    simpa using this
  · have := orderedW_spec (h2 d hd) j oj (by simpa using hj) (by omega)
    simpa using this

end
end
end Go.Proofs.YtibeinbfhhoeiaaGreatDoor.Ab

namespace Go.Proofs.YtibeinbfhhoeiaaGreatDoor.Ab
open Go Go.Conc
noncomputable section

/- ## views -/
theorem viewT_base {t : Tr AObj} {base : Nat} {p : Nat → Bool} {id : Nat} {o : AObj} (ht : t.get id = some o) (hb : id < base) : ∀ (As : List Fresh), (viewT t base p As).get id = some o := by
  intro As
  induction As with
  | nil => exact ht
  | cons a l ih =>
    simp only [viewT]
    split
    · rename_i h1 h2
      have := Nat.le_of_ble_eq_true h1
      rw [Tr.get_set_ne _ _ (by omega)]
      exact ih
    · exact ih

theorem viewT_inv {t : Tr AObj} {base : Nat} {p : Nat → Bool} {id : Nat} {o : AObj} : ∀ {As : List Fresh}, (viewT t base p As).get id = some o →
    (∃ A ∈ As, base ≤ A.id ∧ p A.ix = true ∧ A.id = id ∧ o = A.obj) ∨ t.get id = some o := by
  intro As
  induction As with
  | nil => intro h; exact .inr h
  | cons a l ih =>
    intro h
    simp only [viewT] at h
    split at h
    · rename_i h1 h2
      rw [Tr.get_set] at h
      split at h
      · rename_i e
        cases h
        exact .inl ⟨a, .head _, Nat.le_of_ble_eq_true h1, h2, e, rfl⟩
      · rcases ih h with ⟨A, hA, h'⟩ | h'
        · exact .inl ⟨A, .tail _ hA, h'⟩
        · exact .inr h'
    · rcases ih h with ⟨A, hA, h'⟩ | h'
      · exact .inl ⟨A, .tail _ hA, h'⟩
      · exact .inr h'

theorem viewT_fresh {t : Tr AObj} {base : Nat} {p : Nat → Bool} : ∀ {As : List Fresh}, (∀ A ∈ As, ∀ B ∈ As, A.id = B.id → A = B) → ∀ A ∈ As, base ≤ A.id → p A.ix = true →
    (viewT t base p As).get A.id = some A.obj := by
  intro As
  induction As with
  | nil => intro _ A hA; cases hA
  | cons a l ih =>
    intro hd A hA hb hp
    simp only [viewT]
    by_cases e : a.id = A.id
    · have := hd a (.head _) A hA e
      subst this
      rw [Nat.ble_eq_true_of_le hb, hp]
      simp only
      rw [Tr.get_set_same]
    · have hl : A ∈ l := by
        cases hA with
        | head => exact absurd rfl e
        | tail _ h => exact h
      have := ih (fun X hX Y hY => hd X (.tail _ hX) Y (.tail _ hY)) A hl hb hp
      split
      · rw [Tr.get_set_ne _ _ e]; exact this
      · exact this

/- ## the run in text order -/
structure Trace (P : Program) (r : Rec) (n : Nat) (ops : Array Oper) (F0 : Fr) (H0 : Heap) (T : Nat → DS) (m : Nat → Nat) (val : Nat → Value) : Prop where
  start : T 0 = ⟨F0, H0, [], H0.next, [], []⟩
  mask : ∀ i o, ops[i]? = some o → (befores ops)[i]? = some (m i)
  put : ∀ i o, ops[i]? = some o → dput n (T i).F o.dst (val i) = some (T (i + 1)).F
  did : ∀ i o, ops[i]? = some o → DidPure P ops o (T i) (T (i + 1)) (val i) (T (i + 1)).F ∨ DidLook P ops i (m i) o (T i) (T (i + 1)) (val i) (T (i + 1)).F ∨
    DidFresh P ops i o (T i) (T (i + 1)) (val i) (T (i + 1)).F ∨ DidEffect P r ops i (m i) o (T i) (T (i + 1)) (val i) (T (i + 1)).F

theorem trace_of {P : Program} {r : Rec} {n : Nat} {ops : Array Oper} {F0 : Fr} {H0 : Heap} {sf : DS}
    (h : dOps P r n ops ops.toList (befores ops) 0 ⟨F0, H0, [], H0.next, [], []⟩ = some sf) : ∃ T m val, Trace P r n ops F0 H0 T m val ∧ T ops.size = sf := by
  obtain ⟨T, h0, h1, hT⟩ := dOps_trace _ _ _ _ _ h
  simp only [Nat.zero_add, Array.length_toList] at h1
  have key : ∀ i, ∃ (mi : Nat) (v : Value), ∀ o, ops[i]? = some o → (befores ops)[i]? = some mi ∧ dput n (T i).F o.dst v = some (T (i + 1)).F ∧
      (DidPure P ops o (T i) (T (i + 1)) v (T (i + 1)).F ∨ DidLook P ops i mi o (T i) (T (i + 1)) v (T (i + 1)).F ∨
        DidFresh P ops i o (T i) (T (i + 1)) v (T (i + 1)).F ∨ DidEffect P r ops i mi o (T i) (T (i + 1)) v (T (i + 1)).F) := by
    intro i
    cases ho : ops[i]? with
    | none => exact ⟨0, undef, fun o h => by cases h⟩
    | some o =>
      obtain ⟨mi, hm, hd⟩ := hT i o (by simpa using ho)
      simp only [Nat.zero_add] at hd
      obtain ⟨v, F', hF, hF', hdid⟩ := dStep_did hd
      subst hF'
      refine ⟨mi, v, fun o' ho' => ?_⟩
      cases ho'
      exact ⟨hm, hF, hdid⟩
  refine ⟨T, fun i => (key i).choose, fun i => (key i).choose_spec.choose, ⟨h0, fun i o ho => ?_, fun i o ho => ?_, fun i o ho => ?_⟩, h1⟩
  · exact ((key i).choose_spec.choose_spec o ho).1
  · exact ((key i).choose_spec.choose_spec o ho).2.1
  · exact ((key i).choose_spec.choose_spec o ho).2.2

section
variable {P : Program} {r : Rec} {n : Nat} {ops : Array Oper} {F0 : Fr} {H0 : Heap} {T : Nat → DS} {m : Nat → Nat} {val : Nat → Value}

def IsE (T : Nat → DS) (i : Nat) : Prop := (T (i + 1)).Es = ⟨i, (T i).H⟩ :: (T i).Es

theorem not_isE {i : Nat} (h : (T (i + 1)).Es = (T i).Es) : ¬ IsE T i := fun e => by
  unfold IsE at e
  rw [h] at e
  have := congrArg List.length e
  simp at this

theorem Trace.shape (t : Trace P r n ops F0 H0 T m val) {i : Nat} {o : Oper} (ho : ops[i]? = some o) :
    ((T (i + 1)).As = (T i).As ∧ (T (i + 1)).Es = (T i).Es ∧ (T (i + 1)).H = (T i).H ∧ (T (i + 1)).next = (T i).next) ∨
    (∃ obj, (T (i + 1)).As = ⟨i, (T i).next, obj⟩ :: (T i).As ∧ (T (i + 1)).Es = (T i).Es ∧ (T (i + 1)).H = (T i).H ∧ (T (i + 1)).next = (T i).next + 1) ∨
    (IsE T i ∧ (T (i + 1)).As = (T i).As ∧ (T i).next ≤ (T (i + 1)).next ∧ (T (i + 1)).H.next = (T (i + 1)).next) := by
  rcases t.did i o ho with ⟨h, _⟩ | ⟨_, _, _, _, h⟩ | ⟨_, _, H', obj, _, _, h⟩ | ⟨_, _, _, H', _, _, hn, h⟩
  · left; rw [h]; exact ⟨rfl, rfl, rfl, rfl⟩
  · left; rw [h]; exact ⟨rfl, rfl, rfl, rfl⟩
  · right; left; exact ⟨obj, by rw [h], by rw [h], by rw [h], by rw [h]⟩
  · right; right
    refine ⟨?_, by rw [h], by rw [h]; exact hn, by rw [h]⟩
    unfold IsE; rw [h]

theorem lt_get {i : Nat} (h : i < ops.size) : ∃ o, ops[i]? = some o := ⟨ops[i], by simp [h]⟩

theorem Trace.next_succ (t : Trace P r n ops F0 H0 T m val) {i : Nat} (hi : i < ops.size) : (T i).next ≤ (T (i + 1)).next := by
  obtain ⟨o, ho⟩ := lt_get hi
  rcases t.shape ho with ⟨_, _, _, h⟩ | ⟨_, _, _, _, h⟩ | ⟨_, _, h, _⟩ <;> omega

theorem Trace.next_mono (t : Trace P r n ops F0 H0 T m val) {i j : Nat} (hij : i ≤ j) (hj : j ≤ ops.size) : (T i).next ≤ (T j).next := by
  induction j with
  | zero => have : i = 0 := by omega
            subst this; exact Nat.le_refl _
  | succ j ih =>
    by_cases e : i = j + 1
    · subst e; exact Nat.le_refl _
    · exact Nat.le_trans (ih (by omega) (by omega)) (t.next_succ (by omega))

theorem Trace.H_next (t : Trace P r n ops F0 H0 T m val) : ∀ {i : Nat}, i ≤ ops.size → (T i).H.next ≤ (T i).next := by
  intro i
  induction i with
  | zero => intro _; rw [t.start]; exact Nat.le_refl _
  | succ i ih =>
    intro hi
    have := ih (by omega)
    obtain ⟨o, ho⟩ := lt_get (ops := ops) (i := i) (by omega)
    rcases t.shape ho with ⟨_, _, h1, h⟩ | ⟨_, _, _, h1, h⟩ | ⟨_, _, _, h⟩
    · rw [h1, h]; exact this
    · rw [h1, h]; omega
    · omega

theorem Trace.H_const (t : Trace P r n ops F0 H0 T m val) {i j : Nat} (hij : i ≤ j) (hj : j ≤ ops.size) (hn : ∀ k, i ≤ k → k < j → ¬ IsE T k) : (T j).H = (T i).H := by
  induction j with
  | zero => have : i = 0 := by omega
            subst this; rfl
  | succ j ih =>
    by_cases e : i = j + 1
    · subst e; rfl
    · rw [← ih (by omega) (by omega) (fun k h1 h2 => hn k h1 (by omega))]
      obtain ⟨o, ho⟩ := lt_get (ops := ops) (i := j) (by omega)
      rcases t.shape ho with ⟨_, _, h1, _⟩ | ⟨_, _, _, h1, _⟩ | ⟨h, _⟩
      · exact h1
      · exact h1
      · exact absurd h (hn j (by omega) (by omega))

theorem Trace.Es_mem (t : Trace P r n ops F0 H0 T m val) : ∀ {j : Nat}, j ≤ ops.size → ∀ e, e ∈ (T j).Es ↔ (e.ix < j ∧ IsE T e.ix ∧ e.H = (T e.ix).H) := by
  intro j
  induction j with
  | zero => intro _ e; rw [t.start]; simp
  | succ j ih =>
    intro hj e
    have ih := ih (by omega) e
    obtain ⟨o, ho⟩ := lt_get (ops := ops) (i := j) (by omega)
    have same : (T (j + 1)).Es = (T j).Es → (e ∈ (T (j + 1)).Es ↔ (e.ix < j + 1 ∧ IsE T e.ix ∧ e.H = (T e.ix).H)) := by
      intro h
      rw [h, ih]
      constructor
      · rintro ⟨h1, h2⟩; exact ⟨by omega, h2⟩
      · rintro ⟨h1, h2, h3⟩
        refine ⟨?_, h2, h3⟩
        have : e.ix ≠ j := fun e' => not_isE h (e' ▸ h2)
        omega
    rcases t.shape ho with ⟨_, h, _⟩ | ⟨_, _, h, _⟩ | ⟨h, _⟩
    · exact same h
    · exact same h
    · have h' := h
      unfold IsE at h
      rw [h, List.mem_cons, ih]
      constructor
      · rintro (rfl | ⟨h1, h2⟩)
        · exact ⟨by simp, h', rfl⟩
        · exact ⟨by omega, h2⟩
      · rintro ⟨h1, h2, h3⟩
        by_cases e' : e.ix = j
        · left
          obtain ⟨ix, H⟩ := e
          simp only at e' h3
          subst e' h3
          rfl
        · right; exact ⟨by omega, h2, h3⟩

/-- The fresh thing that step i makes. -/
def Makes (T : Nat → DS) (i : Nat) (A : Fresh) : Prop := (T (i + 1)).As = A :: (T i).As ∧ A.ix = i ∧ A.id = (T i).next ∧ (T (i + 1)).next = (T i).next + 1

theorem Trace.As_mem (t : Trace P r n ops F0 H0 T m val) : ∀ {j : Nat}, j ≤ ops.size → ∀ A, A ∈ (T j).As ↔ (A.ix < j ∧ Makes T A.ix A) := by
  intro j
  induction j with
  | zero => intro _ e; rw [t.start]; simp
  | succ j ih =>
    intro hj A
    have ih := ih (by omega) A
    obtain ⟨o, ho⟩ := lt_get (ops := ops) (i := j) (by omega)
    have same : (T (j + 1)).As = (T j).As → (A ∈ (T (j + 1)).As ↔ (A.ix < j + 1 ∧ Makes T A.ix A)) := by
      intro h
      rw [h, ih]
      constructor
      · rintro ⟨h1, h2⟩; exact ⟨by omega, h2⟩
      · rintro ⟨h1, h2⟩
        refine ⟨?_, h2⟩
        have : A.ix ≠ j := fun e' => by
          have h3 := h2.1
          rw [e', h] at h3
          have := congrArg List.length h3
          simp at this
        omega
    rcases t.shape ho with ⟨h, _⟩ | ⟨obj, h, _, _, hnx⟩ | ⟨_, h, _⟩
    · exact same h
    · rw [h, List.mem_cons, ih]
      constructor
      · rintro (rfl | ⟨h1, h2⟩)
        · exact ⟨by simp, h, rfl, rfl, hnx⟩
        · exact ⟨by omega, h2⟩
      · rintro ⟨h1, h2⟩
        by_cases e' : A.ix = j
        · left
          have h3 := h2.1
          rw [e', h] at h3
          exact (List.cons.inj h3).1.symm
        · right; exact ⟨by omega, h2⟩
    · exact same h

theorem Trace.makes_id (t : Trace P r n ops F0 H0 T m val) {i j : Nat} {A : Fresh} (h : Makes T i A) (hij : i < j) (hj : j ≤ ops.size) : A.id < (T j).next := by
  have := t.next_mono (i := i + 1) (j := j) (by omega) hj
  obtain ⟨_, _, h1, h2⟩ := h
  omega

theorem Trace.As_inj (t : Trace P r n ops F0 H0 T m val) {j : Nat} (hj : j ≤ ops.size) : ∀ A ∈ (T j).As, ∀ B ∈ (T j).As, A.id = B.id → A = B := by
  intro A hA B hB e
  obtain ⟨h1, h2⟩ := (t.As_mem hj A).1 hA
  obtain ⟨h3, h4⟩ := (t.As_mem hj B).1 hB
  have hix : A.ix = B.ix := by
    rcases Nat.lt_trichotomy A.ix B.ix with h | h | h
    · have := t.makes_id h2 h (by omega)
      have := h4.2.2.1
      omega
    · exact h
    · have := t.makes_id h4 h (by omega)
      have := h2.2.2.1
      omega
  have e1 := h2.1
  have e2 := h4.1
  rw [hix, e2] at e1
  exact (List.cons.inj e1).1.symm

theorem Trace.Rs_mem (t : Trace P r n ops F0 H0 T m val) : ∀ {j : Nat}, j ≤ ops.size → ∀ i o, ops[i]? = some o → i < j → DidLook P ops i (m i) o (T i) (T (i + 1)) (val i) (T (i + 1)).F →
    (⟨i, o, val i, (T i).F⟩ : Looked) ∈ (T j).Rs := by
  intro j
  induction j with
  | zero => intro _ i o _ h; omega
  | succ j ih =>
    intro hj i o ho hij hl
    by_cases e : i = j
    · subst e
      obtain ⟨_, _, _, _, h⟩ := hl
      rw [h]
      exact .head _
    · have := ih (by omega) i o ho (by omega) hl
      obtain ⟨o', ho'⟩ := lt_get (ops := ops) (i := j) (by omega)
      rcases t.did j o' ho' with ⟨h, _⟩ | ⟨_, _, _, _, h⟩ | ⟨_, _, H', obj, _, _, h⟩ | ⟨_, _, _, H', _, _, hn, h⟩
      · rw [h]; exact this
      · rw [h]; exact .tail _ this
      · rw [h]; exact this
      · rw [h]; exact this

/-- Where a frame's value comes from. -/
theorem Trace.frame (t : Trace P r n ops F0 H0 T m val) : ∀ {i : Nat}, i ≤ ops.size → ∀ d v, (T i).F.get d = some v →
    (∃ j o, j < i ∧ ops[j]? = some o ∧ o.dst = some d ∧ v = val j) ∨ ((∀ j o, j < i → ops[j]? = some o → o.dst ≠ some d) ∧ F0.get d = some v) := by
  intro i
  induction i with
  | zero => intro _ d v h; rw [t.start] at h; exact .inr ⟨fun j _ hj => by omega, h⟩
  | succ i ih =>
    intro hi d v h
    obtain ⟨o, ho⟩ := lt_get (ops := ops) (i := i) (by omega)
    have hp := t.put i o ho
    have old : o.dst ≠ some d → (T i).F.get d = some v → (∃ j o, j < i + 1 ∧ ops[j]? = some o ∧ o.dst = some d ∧ v = val j) ∨ ((∀ j o, j < i + 1 → ops[j]? = some o → o.dst ≠ some d) ∧ F0.get d = some v) := by
      intro hne hg
      rcases ih (by omega) d v hg with ⟨j, o', h1, h2⟩ | ⟨h1, h2⟩
      · exact .inl ⟨j, o', by omega, h2⟩
      · refine .inr ⟨fun j o' hj ho' => ?_, h2⟩
        by_cases e : j = i
        · subst e; rw [ho] at ho'; cases ho'; exact hne
        · exact h1 j o' (by omega) ho'
    unfold dput at hp
    split at hp
    · rename_i d' hd'
      split at hp
      · cases hp
      · simp only [Option.some.injEq] at hp
        rw [← hp, Tr.get_set] at h
        split at h
        · rename_i e
          cases h
          subst e
          exact .inl ⟨i, o, by omega, ho, hd', rfl⟩
        · rename_i e
          exact old (fun h' => e (Option.some.inj (hd'.symm.trans h'))) h
    · rename_i hd'
      simp only [Option.some.injEq] at hp
      rw [← hp] at h
      exact old (by rw [hd']; simp) h

theorem Trace.dst_lt (t : Trace P r n ops F0 H0 T m val) {i : Nat} {o : Oper} (ho : ops[i]? = some o) {d : Tmp} (hd : o.dst = some d) : d < n := by
  have hp := t.put i o ho
  unfold dput at hp
  rw [hd] at hp
  simp only at hp
  split at hp
  · cases hp
  · rename_i hb
    rcases Nat.lt_or_ge d n with h | h
    · exact h
    · rw [Nat.ble_eq_true_of_le h] at hb; cases hb
end
end
end Go.Proofs.YtibeinbfhhoeiaaGreatDoor.Ab

namespace Go.Proofs.YtibeinbfhhoeiaaGreatDoor.Ab
open Go Go.Conc
noncomputable section

theorem chained_spec {m : Nat} : ∀ {l : List Was}, chained m l = true → ∀ e ∈ l, bit m e.ix = true := by
  intro l
  induction l with
  | nil => intro _ e he; cases he
  | cons x l ih =>
    intro h e he
    simp only [chained] at h
    split at h
    · rename_i hb
      cases he with
      | head => exact hb
      | tail _ he => exact ih h e he
    · cases h

theorem covers_spec {base m : Nat} : ∀ {l : List Fresh}, covers base m l = true → ∀ A ∈ l, base ≤ A.id → bit m A.ix = true := by
  intro l
  induction l with
  | nil => intro _ e he; cases he
  | cons x l ih =>
    intro h A hA hb
    simp only [covers] at h
    cases hA with
    | head =>
      rw [Nat.ble_eq_true_of_le hb] at h
      simp only at h
      split at h
      · assumption
      · cases h
    | tail _ hA =>
      split at h
      · split at h
        · exact ih h A hA hb
        · cases h
      · exact ih h A hA hb

theorem back_spec {P : Program} {F : Fr} {o : Oper} {v : Value} {m : Nat} {As : List Fresh} {next : Nat} : ∀ {l : List Was}, back P F o v m As next l = true → ∀ e ∈ l, bit m e.ix = false →
    xlook P (F.ev P) ⟨viewT e.H.t e.H.next (bit m) As, next⟩ o = some v := by
  intro l
  induction l with
  | nil => intro _ e he; cases he
  | cons x l ih =>
    intro h e he hb
    simp only [back] at h
    cases he with
    | head =>
      rw [hb] at h
      simp only at h
      split at h
      · rename_i hl; exact looks_eq hl
      · cases h
    | tail _ he =>
      split at h
      · exact ih h e he hb
      · split at h
        · exact ih h e he hb
        · cases h

theorem forth_spec {P : Program} {H : Heap} {m : Nat} : ∀ {l : List Looked}, forth P H m l = true → ∀ e ∈ l, bit m e.ix = false → xlook P (e.F.ev P) H e.o = some e.v := by
  intro l
  induction l with
  | nil => intro _ e he; cases he
  | cons x l ih =>
    intro h e he hb
    simp only [forth] at h
    cases he with
    | head =>
      rw [hb] at h
      simp only at h
      split at h
      · rename_i hl; exact looks_eq hl
      · cases h
    | tail _ he =>
      split at h
      · exact ih h e he hb
      · split at h
        · exact ih h e he hb
        · cases h

section
variable (n : Nat) (ops : Array Oper) (F0 : Fr) (H0 : Heap) (T : Nat → DS) (m : Nat → Nat) (val : Nat → Value)

/-- The heap when the effects up to c are done, and the fresh things that S names. -/
def VH (c : Nat) (S : Nat → Bool) : Heap := ⟨viewT (T c).H.t (T c).H.next S (T ops.size).As, (T ops.size).next⟩

def Known (c : Nat) (S : Nat → Bool) (σ τ : Sig) : Prop := (∀ i, i < (T c).H.next → τ i = σ i) ∧ ∀ A ∈ (T ops.size).As, S A.ix = true → τ A.id = σ A.id

structure Inv (P : Program) (a0 : Act) (σ0 : Sig) (w0 : World) (c : Nat) (S : Nat → Bool) (σ : Sig) (a : Act) (w : World) : Prop where
  gl : P.globals.size ≤ H0.next
  cN : c ≤ ops.size
  cE : c = 0 ∨ IsE T (c - 1)
  eff : ∀ i, i < ops.size → IsE T i → (S i = true ↔ i < c)
  down : ∀ i o, ops[i]? = some o → S i = true → ∀ j, bit (m i) j = true → S j = true
  bnd : ∀ i, S i = true → i < ops.size
  made : ∀ A ∈ (T ops.size).As, A.ix < c → S A.ix = true
  size : a.tmps.size = n
  defs : a.defers = a0.defers
  vals : ∀ τ, Known ops T c S σ τ → ∀ i o d, ops[i]? = some o → S i = true → o.dst = some d → a.tmps[d]? = some (ren τ (val i))
  rest : ∀ τ, Known ops T c S σ τ → ∀ d v, F0.get d = some v → (∀ i o, ops[i]? = some o → S i = true → o.dst ≠ some d) → a.tmps[d]? = some (ren τ v)
  stab : ∀ i, S i = true → Stab (max (T (i + 1)).next (T c).H.next) (val i)
  base : ∀ id o, (T c).H.get id = some o → id < (T c).H.next ∧ StabObj (T c).H.next o
  own : ∀ A ∈ (T ops.size).As, S A.ix = true → StabObj (A.id + 1) A.obj ∧ A.obj.own = true
  rep : ∀ τ, Known ops T c S σ τ → Rep P τ (VH ops T c S) w
  stp : Stp σ0 H0 w0 σ (VH ops T c S) w
end

section
variable {P : Program} {r : Rec} {n : Nat} {ops : Array Oper} {F0 : Fr} {H0 : Heap} {T : Nat → DS} {m : Nat → Nat} {val : Nat → Value} {a0 a : Act} {σ0 σ : Sig} {w0 w : World} {c : Nat} {S : Nat → Bool}

theorem Known.refl (σ : Sig) : Known ops T c S σ σ := ⟨fun _ _ => rfl, fun _ _ _ => rfl⟩

theorem Inv.cn (t : Trace P r n ops F0 H0 T m val) (h : Inv n ops F0 H0 T m val P a0 σ0 w0 c S σ a w) : (T c).H.next = (T c).next := by
  rcases h.cE with e | e
  · rw [e, t.start]
  · have hc : c - 1 < ops.size ∨ c = 0 := by have := h.cN; omega
    rcases hc with hc | hc
    · by_cases hz : c = 0
      · rw [hz, t.start]
      · obtain ⟨o, ho⟩ := lt_get hc
        have e1 : c - 1 + 1 = c := by omega
        rcases t.shape ho with ⟨_, h1, _⟩ | ⟨_, _, h1, _⟩ | ⟨_, _, _, h1⟩
        · exact absurd e (not_isE h1)
        · exact absurd e (not_isE h1)
        · rw [e1] at h1; exact h1
    · rw [hc, t.start]

theorem Inv.glN (t : Trace P r n ops F0 H0 T m val) (h : Inv n ops F0 H0 T m val P a0 σ0 w0 c S σ a w) : P.globals.size ≤ (T c).H.next := by
  have h1 := t.next_mono (i := 0) (j := c) (by omega) h.cN
  rw [t.start] at h1
  simp only at h1
  have := h.cn t
  have := h.gl
  omega

/-- Of a ready operation: what its reads find. -/
theorem Inv.reads (t : Trace P r n ops F0 H0 T m val) (hord : orderly ops = true) (h : Inv n ops F0 H0 T m val P a0 σ0 w0 c S σ a w) (hF0 : ∀ d v, F0.get d = some v → Stab H0.next v)
    {i : Nat} {o : Oper} (ho : ops[i]? = some o) (hi : S i = false) (hm : ∀ j, bit (m i) j = true → S j = true) {d : Tmp} (hd : d ∈ readsOf ops o) {v : Value} (hv : (T i).F.get d = some v) :
    (∀ τ, Known ops T c S σ τ → a.tmps[d]? = some (ren τ v)) ∧ Stab (max (T i).next (T c).H.next) v := by
  have hiN : i < ops.size := (Array.getElem?_eq_some_iff.1 ho).1
  rcases t.frame (Nat.le_of_lt hiN) d v hv with ⟨j, oj, hji, hoj, hdj, rfl⟩ | ⟨hno, hF⟩
  · obtain ⟨mj, hmj, _, hw⟩ := orderly_spec hord hoj
    obtain ⟨mi, hmi, _, hr⟩ := hw d hdj i o ho (by omega)
    have hmi' := t.mask i o ho
    rw [hmi] at hmi'
    cases hmi'
    have hS : S j = true := hm j ((hr hd).1 hji)
    refine ⟨fun τ hτ => h.vals τ hτ j oj d hoj hS hdj, (h.stab j hS).mono ?_⟩
    have := t.next_mono (i := j + 1) (j := i) (by omega) (by omega)
    omega
  · have hno' : ∀ k ok, ops[k]? = some ok → S k = true → ok.dst ≠ some d := by
      intro k ok hok hk hdk
      rcases Nat.lt_trichotomy k i with hlt | rfl | hlt
      · exact hno k ok hlt hok hdk
      · rw [hi] at hk; cases hk
      · obtain ⟨mk, hmk, _, hw⟩ := orderly_spec hord hok
        obtain ⟨mi, hmi, _, hr⟩ := hw d hdk i o ho (by omega)
        have hmk' := t.mask k ok hok
        rw [hmk] at hmk'
        cases hmk'
        have := h.down k ok hok hk i ((hr hd).2 hlt)
        rw [hi] at this
        cases this
    refine ⟨fun τ hτ => h.rest τ hτ d v hF hno', (hF0 d v hF).mono ?_⟩
    have h1 := t.next_mono (i := 0) (j := c) (by omega) h.cN
    rw [t.start] at h1
    have := h.cn t
    simp only at h1
    omega

theorem guard_of {F : Fr} {τ : Sig} {o : Oper} {g : Bool} (h : ∀ d ∈ readsOf ops o, ∀ v, F.get d = some v → a.tmps[d]? = some (ren τ v)) (hg : guardB ops F o.guard = some g) :
    Region.wanted o (yielded ops a.tmps) = g := by
  unfold Region.wanted
  unfold guardB at hg
  split at hg
  · rename_i e; simp only [Option.some.injEq] at hg; rw [e]; exact hg
  · rename_i j want e
    rw [e]
    simp only
    split at hg
    · rename_i o' ho
      split at hg
      · rename_i d hd
        have hmem : d ∈ readsOf ops o := List.mem_append_right _ (by simp [guardTmp, e, ho, hd])
        rw [nth_eq] at ho
        have ho' : ops[j]? = some o' := by simpa using ho
        split at hg
        · rename_i v hv
          have := h _ hmem _ hv
          simp only [ren] at this
          simp only [Option.some.injEq] at hg
          simp only [yielded, ho', Option.bind_some, hd, this]
          rw [← hg]
          cases v <;> cases want <;> rfl
        · rename_i v hne hv
          have := h _ hmem _ hv
          simp only [Option.some.injEq] at hg
          simp only [yielded, ho', Option.bind_some, hd, this]
          subst hg
          cases v <;> first | exact absurd rfl (hne _) | skip
          all_goals first | rfl | (rename_i x; cases x <;> rfl) | (rename_i x y z; cases x <;> rfl)
        · cases hg
      · cases hg
    · cases hg

/-- A view is part of the heap. -/
theorem Inv.view (t : Trace P r n ops F0 H0 T m val) (h : Inv n ops F0 H0 T m val P a0 σ0 w0 c S σ a w) {i nx mi : Nat} (hi : i ≤ ops.size) (hm : ∀ j, bit mi j = true → S j = true)
    (hn : (T c).H.next ≤ nx) (hA : ∀ A ∈ (T i).As, (T c).H.next ≤ A.id → A.id < nx) {τ : Sig} (hτ : Known ops T c S σ τ) : Rep P τ ⟨viewT (T c).H.t (T c).H.next (bit mi) (T i).As, nx⟩ w := by
  refine (h.rep τ hτ).sub (Nat.le_trans (h.glN t) hn) fun id o ho => ?_
  rcases viewT_inv ho with ⟨A, hAm, hb, hp, rfl, rfl⟩ | hb
  · have hAll : A ∈ (T ops.size).As := by
      obtain ⟨h1, h2⟩ := (t.As_mem hi A).1 hAm
      exact (t.As_mem (Nat.le_refl _) A).2 ⟨by omega, h2⟩
    refine ⟨viewT_fresh (t.As_inj (Nat.le_refl _)) A hAll hb (hm _ hp), hA A hAm hb, ((h.own A hAll (hm _ hp)).1).mono ?_⟩
    have := hA A hAm hb
    exact this
  · obtain ⟨h1, h2⟩ := h.base id o hb
    exact ⟨viewT_base hb h1 _, Nat.lt_of_lt_of_le h1 hn, h2.mono hn⟩

end
end
end Go.Proofs.YtibeinbfhhoeiaaGreatDoor.Ab

namespace Go.Proofs.YtibeinbfhhoeiaaGreatDoor.Ab
open Go Go.Conc
noncomputable section

open Classical in
def cut (ρ : Operand → Option Value) (o : Oper) (x : Operand) : Option Value := if x ∈ o.op.operands then ρ x else none

theorem cut_some {ρ : Operand → Option Value} {o : Oper} {x : Operand} {y : Value} (h : cut ρ o x = some y) : x ∈ o.op.operands ∧ ρ x = some y := by
  unfold cut at h
  split at h
  · exact ⟨by assumption, h⟩
  · cases h

theorem cut_on {ρ : Operand → Option Value} {o : Oper} : ∀ x ∈ o.op.operands, cut ρ o x = ρ x := fun x hx => by simp [cut, hx]

theorem xlist_congr {ρ ρ' : Operand → Option Value} : ∀ {l : List Operand}, (∀ x ∈ l, ρ x = ρ' x) → xlist ρ l = xlist ρ' l := by
  intro l
  induction l with
  | nil => intro _; rfl
  | cons x l ih =>
    intro h
    simp only [xlist]
    rw [h x (.head _), ih fun x hx => h x (.tail _ hx)]

theorem xparts_congr {ρ ρ' : Operand → Option Value} : ∀ {l : List (Nat × Operand)}, (∀ p ∈ l, ρ p.2 = ρ' p.2) → xparts ρ l = xparts ρ' l := by
  intro l
  induction l with
  | nil => intro _; rfl
  | cons x l ih =>
    intro h
    simp only [xparts]
    rw [h x (.head _), ih fun x hx => h x (.tail _ hx)]

theorem xpure_cut {P : Program} {ρ : Operand → Option Value} {o : Oper} : xpure P (cut ρ o) o = xpure P ρ o := by
  have h : ∀ x ∈ o.op.operands, cut ρ o x = ρ x := cut_on
  revert h
  generalize cut ρ o = ρ'
  intro h
  unfold xpure
  cases he : o.op <;> rw [he] at h <;> simp only [Op.operands] at h ⊢
  case build t parts =>
    have := xparts_congr (ρ := ρ') (ρ' := ρ) (l := parts.toList) fun p hp => h p.2 (List.mem_toArray.2 (List.mem_map.2 ⟨p, hp, rfl⟩))
    simp only [xpBuild, this]
  case makeFunc fn first captured =>
    have h1 := xlist_congr (ρ := ρ') (ρ' := ρ) (l := first.toList) fun x hx => h x (by simp at hx; simp [hx])
    have h2 := xlist_congr (ρ := ρ') (ρ' := ρ) (l := captured.toList) fun x hx => h x (by simp at hx; simp [hx])
    simp only [xpFunc, h1, h2]
  case call c =>
    have h1 := xlist_congr (ρ := ρ') (ρ' := ρ) (l := c.args.toList) fun x hx => h x (by simp at hx; simp [Call.operands, hx])
    simp only [xpCall, h1]
  all_goals simp at h
  all_goals first
    | rfl
    | (simp only [xpPick, xpNil, xpBin, xpUn, xpConv, xpIface, xpFieldAddr, xpField, xpIndexAddr, xpIndex, xpAssert, xpExtract, h]; done)
    | (simp [xpPick, xpNil, xpBin, xpUn, xpConv, xpIface, xpFieldAddr, xpField, xpIndexAddr, xpIndex, xpAssert, xpExtract, h]; done)

theorem xoptv_congr {ρ ρ' : Operand → Option Value} {x : Option Operand} (h : ∀ y, x = some y → ρ y = ρ' y) : xoptv ρ x = xoptv ρ' x := by
  cases x with
  | none => rfl
  | some y => simp only [xoptv]; rw [h y rfl]

theorem xheap_cut {P : Program} {ρ : Operand → Option Value} {o : Oper} {H : Heap} : xheap P (cut ρ o) H o = xheap P ρ H o := by
  have h : ∀ x ∈ o.op.operands, cut ρ o x = ρ x := cut_on
  revert h
  generalize cut ρ o = ρ'
  intro h
  unfold xheap
  cases he : o.op <;> rw [he] at h <;> simp only [Op.operands] at h ⊢
  case buildSlice t len parts =>
    have := xparts_congr (ρ := ρ') (ρ' := ρ) (l := parts.toList) fun p hp => h p.2 (List.mem_toArray.2 (List.mem_map.2 ⟨p, hp, rfl⟩))
    simp only [xhBuildSlice, this]
  case call c =>
    have h1 := xlist_congr (ρ := ρ') (ρ' := ρ) (l := c.args.toList) fun x hx => h x (by simp at hx; simp [Call.operands, hx])
    simp only [xhCall, xhAppend, xhClear, xhLen, h1]
  case slice t x lo hi mx =>
    have h0 : ρ' x = ρ x := h x (by simp)
    have h1 := xoptv_congr (ρ := ρ') (ρ' := ρ) (x := lo) fun y hy => h y (by subst hy; simp)
    have h2 := xoptv_congr (ρ := ρ') (ρ' := ρ) (x := hi) fun y hy => h y (by subst hy; simp)
    have h3 := xoptv_congr (ρ := ρ') (ρ' := ρ) (x := mx) fun y hy => h y (by subst hy; simp)
    simp only [xhSlice, h0, h1, h2, h3]
  case makeMap t r =>
    have h1 := xoptv_congr (ρ := ρ') (ρ' := ρ) (x := r) fun y hy => h y (by subst hy; simp)
    simp only [xhMakeMap, h1]
  all_goals simp at h
  all_goals first
    | rfl
    | (simp only [xhLoad, xhStore, xhBox, xhMakeSlice, xhMakeChan, xhLookup, xhMapUpdate, xhConv, h]; done)
    | (simp [xhLoad, xhStore, xhBox, xhMakeSlice, xhMakeChan, xhLookup, xhMapUpdate, xhConv, h]; done)

theorem soValue_cut {r : Rec} {ρ : Operand → Option Value} {o : Oper} {c : Call} {fo : Operand} {D : Dl} {H : Heap} {rc : RC} (hop : o.op = .call c) (hc : c.callee = .value fo) :
    soValue r (cut ρ o) fo c.args D H rc = soValue r ρ fo c.args D H rc := by
  have h : ∀ x ∈ o.op.operands, cut ρ o x = ρ x := cut_on
  rw [hop] at h
  simp only [Op.operands] at h
  have h0 : cut ρ o fo = ρ fo := h fo (by simp [Call.operands, hc])
  have h1 := xlist_congr (ρ := cut ρ o) (ρ' := ρ) (l := c.args.toList) fun x hx => h x (by simp at hx; simp [Call.operands, hx])
  simp only [soValue, h0, h1]

end
end Go.Proofs.YtibeinbfhhoeiaaGreatDoor.Ab

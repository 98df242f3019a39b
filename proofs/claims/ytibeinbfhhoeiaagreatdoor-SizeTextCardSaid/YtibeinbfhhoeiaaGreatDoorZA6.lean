/- Regions whose order is drawn, 6: each operation keeps what holds. Regions whose order is drawn, 7: an effect keeps what holds. Regions whose order is drawn, 8: the whole region; the interpreter is sound. Regions whose order is drawn, 8b: regions with slices, walked in a turn of their own. Regions whose order is drawn, 9: the region; the interpreter is sound. A call without arguments that the interpreter brings to an end from the empty heap, with a value that holds no address: in every world it returns that value, and all that was there stands as it did. A shelf's contract that writes a row of numbers, as a hook's word. What is given: rows of a world that a call reads, as an abstract heap. -/
import Derived.Test.YtibeinbfhhoeiaaGreatDoorZA5
import Derived.Sort.Grow
namespace Go.Proofs.YtibeinbfhhoeiaaGreatDoor.Ab
open Go Go.Conc
noncomputable section

section
variable {P : Program} {r : Rec} {n : Nat} {ops : Array Oper} {F0 : Fr} {H0 : Heap} {T : Nat → DS} {m : Nat → Nat} {val : Nat → Value} {a0 a : Act} {σ0 σ : Sig} {w0 w : World} {c : Nat} {S S' : Nat → Bool}

/-- i is ready. -/
structure Ready (ops : Array Oper) (m : Nat → Nat) (S S' : Nat → Bool) (i : Nat) (o : Oper) : Prop where
  ho : ops[i]? = some o
  un : S i = false
  ms : ∀ j, bit (m i) j = true → S j = true
  new : S' i = true
  old : ∀ k, k ≠ i → S' k = S k

theorem Ready.lt {i : Nat} {o : Oper} (h : Ready ops m S S' i o) : i < ops.size := (Array.getElem?_eq_some_iff.1 h.ho).1

theorem Ready.mono {i : Nat} {o : Oper} (h : Ready ops m S S' i o) {k : Nat} (hk : S k = true) : S' k = true := by
  rw [h.old k (fun e => by rw [e, h.un] at hk; cases hk)]; exact hk

theorem vals_put (hord : orderly ops = true) (t : Trace P r n ops F0 H0 T m val) (h : Inv n ops F0 H0 T m val P a0 σ0 w0 c S σ a w) {i : Nat} {o : Oper} (hr : Ready ops m S S' i o)
    {c' : Nat} {σ' : Sig} (hK : ∀ τ, Known ops T c' S' σ' τ → Known ops T c S σ τ) {v' : Value} (hv : ∀ τ, Known ops T c' S' σ' τ → v' = ren τ (val i)) :
    (a.put o.dst v').tmps.size = n ∧ (a.put o.dst v').defers = a0.defers ∧
    (∀ τ, Known ops T c' S' σ' τ → ∀ k ok d, ops[k]? = some ok → S' k = true → ok.dst = some d → (a.put o.dst v').tmps[d]? = some (ren τ (val k))) ∧
    (∀ τ, Known ops T c' S' σ' τ → ∀ d v, F0.get d = some v → (∀ k ok, ops[k]? = some ok → S' k = true → ok.dst ≠ some d) → (a.put o.dst v').tmps[d]? = some (ren τ v)) := by
  have hsize : (a.put o.dst v').tmps.size = n := by
    cases o.dst with
    | none => exact h.size
    | some d => simp [Act.put, h.size]
  have hdef : (a.put o.dst v').defers = a0.defers := by
    cases o.dst with
    | none => exact h.defs
    | some d => exact h.defs
  have hne : ∀ d, o.dst ≠ some d → (a.put o.dst v').tmps[d]? = a.tmps[d]? := by
    intro d hd
    cases hdst : o.dst with
    | none => rfl
    | some d' =>
      have : d' ≠ d := fun e => hd (by rw [hdst, e])
      simp only [Act.put]
      rw [Array.getElem?_setIfInBounds_ne this]
  refine ⟨hsize, hdef, fun τ hτ k ok d hok hk hd => ?_, fun τ hτ d v hF hno => ?_⟩
  · by_cases e : k = i
    · subst e
      have hok' := hr.ho
      rw [hok] at hok'
      cases hok'
      have hlt := t.dst_lt hok hd
      simp only [hd, Act.put]
      rw [Array.getElem?_setIfInBounds_self_of_lt (by rw [h.size]; exact hlt), hv τ hτ]
    · obtain ⟨mk, _, _, hw⟩ := orderly_spec hord hok
      obtain ⟨_, _, hdi, _⟩ := hw d hd i o hr.ho (Ne.symm e)
      rw [hne d hdi]
      exact h.vals τ (hK τ hτ) k ok d hok (by rw [← hr.old k e]; exact hk) hd
  · rw [hne d (hno i o hr.ho hr.new)]
    exact h.rest τ (hK τ hτ) d v hF fun k ok hok hk => hno k ok hok (hr.mono hk)

theorem viewT_congr {t : Tr AObj} {base : Nat} {p q : Nat → Bool} : ∀ {l : List Fresh}, (∀ A ∈ l, p A.ix = q A.ix) → viewT t base p l = viewT t base q l := by
  intro l
  induction l with
  | nil => intro _; rfl
  | cons x l ih =>
    intro h
    simp only [viewT]
    rw [h x (.head _), ih fun A hA => h A (.tail _ hA)]

theorem down_put (h : Inv n ops F0 H0 T m val P a0 σ0 w0 c S σ a w) {i : Nat} {o : Oper} (hr : Ready ops m S S' i o) :
    ∀ k ok, ops[k]? = some ok → S' k = true → ∀ j, bit (m k) j = true → S' j = true := by
  intro k ok hok hk j hb
  by_cases e : k = i
  · subst e; exact hr.mono (hr.ms j hb)
  · exact hr.mono (h.down k ok hok (by rw [← hr.old k e]; exact hk) j hb)

theorem bnd_put (h : Inv n ops F0 H0 T m val P a0 σ0 w0 c S σ a w) {i : Nat} {o : Oper} (hr : Ready ops m S S' i o) : ∀ k, S' k = true → k < ops.size := by
  intro k hk
  by_cases e : k = i
  · subst e; exact hr.lt
  · exact h.bnd k (by rw [← hr.old k e]; exact hk)

/-- An operation that leaves the heap alone. -/
theorem Inv.quiet (hord : orderly ops = true) (t : Trace P r n ops F0 H0 T m val) (h : Inv n ops F0 H0 T m val P a0 σ0 w0 c S σ a w) {i : Nat} {o : Oper} (hr : Ready ops m S S' i o)
    (hE : ¬ IsE T i) (hA : (T (i + 1)).As = (T i).As) {v' : Value} (hv : ∀ τ, Known ops T c S σ τ → v' = ren τ (val i)) (hst : Stab (max (T (i + 1)).next (T c).H.next) (val i)) :
    Inv n ops F0 H0 T m val P a0 σ0 w0 c S' σ (a.put o.dst v') w := by
  have hix : ∀ A ∈ (T ops.size).As, A.ix ≠ i := by
    intro A hAm e
    have hmk := ((t.As_mem (Nat.le_refl _) A).1 hAm).2
    have h3 := hmk.1
    rw [e, hA] at h3
    have := congrArg List.length h3
    simp at this
  have hSA : ∀ A ∈ (T ops.size).As, S' A.ix = S A.ix := fun A hAm => hr.old _ (hix A hAm)
  have hV : VH ops T c S' = VH ops T c S := by
    unfold VH
    rw [viewT_congr hSA]
  have hK : ∀ τ, Known ops T c S' σ τ → Known ops T c S σ τ := fun τ ⟨h1, h2⟩ => ⟨h1, fun A hAm hs => h2 A hAm (by rw [hSA A hAm]; exact hs)⟩
  obtain ⟨p1, p2, p3, p4⟩ := vals_put hord t h hr hK (v' := v') fun τ hτ => hv τ (hK τ hτ)
  exact {
    gl := h.gl
    cN := h.cN
    cE := h.cE
    eff := fun k hk hEk => by
      rw [hr.old k (fun e => hE (e ▸ hEk))]; exact h.eff k hk hEk
    down := down_put h hr
    bnd := bnd_put h hr
    made := fun A hAm hc => by rw [hSA A hAm]; exact h.made A hAm hc
    size := p1
    defs := p2
    vals := p3
    rest := p4
    stab := fun k hk => by
      by_cases e : k = i
      · subst e; exact hst
      · exact h.stab k (by rw [← hr.old k e]; exact hk)
    base := h.base
    own := fun A hAm hs => h.own A hAm (by rw [← hSA A hAm]; exact hs)
    rep := fun τ hτ => by rw [hV]; exact h.rep τ (hK τ hτ)
    stp := by rw [hV]; exact h.stp }

theorem VH_inv {id : Nat} {o : AObj} (h : (VH ops T c S).get id = some o) : (∃ A ∈ (T ops.size).As, (T c).H.next ≤ A.id ∧ S A.ix = true ∧ A.id = id ∧ o = A.obj) ∨ (T c).H.get id = some o := viewT_inv h

theorem VH_base (h : Inv n ops F0 H0 T m val P a0 σ0 w0 c S σ a w) {id : Nat} {o : AObj} (ho : (T c).H.get id = some o) : (VH ops T c S).get id = some o := viewT_base ho (h.base id o ho).1 _

theorem VH_fresh (t : Trace P r n ops F0 H0 T m val) {A : Fresh} (hA : A ∈ (T ops.size).As) (hb : (T c).H.next ≤ A.id) (hS : S A.ix = true) : (VH ops T c S).get A.id = some A.obj :=
  viewT_fresh (t.As_inj (Nat.le_refl _)) A hA hb hS

theorem live_own {o : AObj} (h : o.own = true) : o.live = true := by
  cases o with
  | row cells elem kind => cases kind <;> first | rfl | cases h
  | map es => rfl
  | chan cap buf => rfl

/-- Something fresh is made. -/
theorem Inv.fresh (hord : orderly ops = true) (t : Trace P r n ops F0 H0 T m val) (h : Inv n ops F0 H0 T m val P a0 σ0 w0 c S σ a w) {i : Nat} {o : Oper} (hr : Ready ops m S S' i o)
    {obj : AObj} (hE : (T (i + 1)).Es = (T i).Es) (hA : (T (i + 1)).As = ⟨i, (T i).next, obj⟩ :: (T i).As) (hnx : (T (i + 1)).next = (T i).next + 1) (hown : obj.own = true) {v' : Value} {w' : World}
    (hdo : ∀ τ, Known ops T c S σ τ → v' = ren (upd τ (T i).next ⟨w.heap.size, 0, 0⟩) (val i) ∧ Rep P (upd τ (T i).next ⟨w.heap.size, 0, 0⟩) (Heap.alloc ⟨.lf, (T i).next⟩ obj) w' ∧
      Stp τ ⟨.lf, (T i).next⟩ w (upd τ (T i).next ⟨w.heap.size, 0, 0⟩) (Heap.alloc ⟨.lf, (T i).next⟩ obj) w' ∧ Stab ((T i).next + 1) (val i)) :
    Inv n ops F0 H0 T m val P a0 σ0 w0 c S' (upd σ (T i).next ⟨w.heap.size, 0, 0⟩) (a.put o.dst v') w' := by
  have hi := hr.lt
  have hmk : Makes T i ⟨i, (T i).next, obj⟩ := ⟨hA, rfl, rfl, hnx⟩
  have hA0 : (⟨i, (T i).next, obj⟩ : Fresh) ∈ (T ops.size).As := (t.As_mem (Nat.le_refl _) _).2 ⟨hi, hmk⟩
  have hci : c ≤ i := by
    rcases Nat.lt_or_ge i c with hlt | hge
    · have := h.made _ hA0 hlt
      simp only at this
      rw [hr.un] at this; cases this
    · exact hge
  have hcn := h.cn t
  have hbase : (T c).H.next ≤ (T i).next := by rw [hcn]; exact t.next_mono hci (Nat.le_of_lt hi)
  have hNX : (T i).next < (T ops.size).next := t.makes_id hmk hi (Nat.le_refl _)
  have hne : ∀ A ∈ (T ops.size).As, S A.ix = true → A.id ≠ (T i).next := by
    intro A hAm hs e
    have := t.As_inj (Nat.le_refl _) A hAm _ hA0 e
    rw [this, hr.un] at hs
    cases hs
  have hK : ∀ τ, Known ops T c S' (upd σ (T i).next ⟨w.heap.size, 0, 0⟩) τ → Known ops T c S σ τ := by
    rintro τ ⟨h1, h2⟩
    refine ⟨fun k hk => ?_, fun A hAm hs => ?_⟩
    · rw [h1 k hk, upd_ne _ _ (by omega)]
    · rw [h2 A hAm (hr.mono hs), upd_ne _ _ (hne A hAm hs)]
  have hτ0 : ∀ τ, Known ops T c S' (upd σ (T i).next ⟨w.heap.size, 0, 0⟩) τ → upd τ (T i).next ⟨w.heap.size, 0, 0⟩ = τ := by
    rintro τ ⟨_, h2⟩
    have := h2 _ hA0 hr.new
    simp only at this
    rw [upd_same] at this
    funext k
    by_cases e : k = (T i).next
    · subst e; rw [upd_same, this]
    · rw [upd_ne _ _ e]
  obtain ⟨p1, p2, p3, p4⟩ := vals_put hord t h hr hK (v' := v') fun τ hτ => by rw [(hdo τ (hK τ hτ)).1, hτ0 τ hτ]
  have hσ := hdo σ (Known.refl σ)
  have hkeep : ∀ b, b < w.heap.size → w'.heap[b]? = w.heap[b]? := fun b hb => hσ.2.2.1.frame b hb fun k ob hk => by cases hk
  have hget : ∀ id ob, (VH ops T c S').get id = some ob → (VH ops T c S).get id = some ob ∨ (Heap.alloc ⟨.lf, (T i).next⟩ obj).get id = some ob := by
    intro id ob hid
    rcases VH_inv hid with ⟨A, hAm, hb, hs, rfl, rfl⟩ | hb
    · by_cases e : A.ix = i
      · right
        have h1 := ((t.As_mem (Nat.le_refl _) A).1 hAm).2.1
        rw [e, hA] at h1
        have h2 := (List.cons.inj h1).1
        rw [← h2]
        exact Heap.get_alloc_same _ _
      · left; exact VH_fresh t hAm hb (by rw [← hr.old _ e]; exact hs)
    · left; exact VH_base h hb
  have halloc : ∀ id ob, (Heap.alloc ⟨.lf, (T i).next⟩ obj).get id = some ob → id = (T i).next ∧ ob = obj := by
    intro id ob hid
    by_cases e : id = (T i).next
    · subst e
      rw [show (Heap.alloc ⟨.lf, (T i).next⟩ obj).get (T i).next = some obj from Heap.get_alloc_same _ _] at hid
      exact ⟨rfl, (Option.some.inj hid).symm⟩
    · rw [Heap.get_alloc_ne _ _ (show (⟨.lf, (T i).next⟩ : Heap).next ≠ id from Ne.symm e)] at hid
      cases hid
  have hVne : ∀ id ob, (VH ops T c S).get id = some ob → id ≠ (T i).next := by
    intro id ob hid
    rcases VH_inv hid with ⟨A, hAm, _, hs, rfl, _⟩ | hb
    · exact hne A hAm hs
    · have := (h.base id ob hb).1; omega
  exact {
    gl := h.gl
    cN := h.cN
    cE := h.cE
    eff := fun k hk hEk => by
      rw [hr.old k (fun e => not_isE hE (e ▸ hEk))]; exact h.eff k hk hEk
    down := down_put h hr
    bnd := bnd_put h hr
    made := fun A hAm hc => hr.mono (h.made A hAm hc)
    size := p1
    defs := p2
    vals := p3
    rest := p4
    stab := fun k hk => by
      by_cases e : k = i
      · subst e; exact hσ.2.2.2.mono (by rw [hnx]; omega)
      · exact h.stab k (by rw [← hr.old k e]; exact hk)
    base := h.base
    own := fun A hAm hs => by
      by_cases e : A.ix = i
      · have h1 := ((t.As_mem (Nat.le_refl _) A).1 hAm).2.1
        rw [e, hA] at h1
        have h2 := (List.cons.inj h1).1
        rw [← h2]
        exact ⟨hσ.2.1.stab _ _ (Heap.get_alloc_same _ _), hown⟩
      · exact h.own A hAm (by rw [← hr.old _ e]; exact hs)
    rep := fun τ hτ => by
      have h1 := hdo τ (hK τ hτ)
      rw [hτ0 τ hτ] at h1
      have hV := h.rep τ (hK τ hτ)
      have hblk : (τ (T i).next).blk = w.heap.size := by
        have := hτ.2 _ hA0 hr.new
        simp only at this
        rw [this, upd_same]
      have hV' : Rep P τ (VH ops T c S) w' := hV.keep fun id ob hid hl => hkeep _ ((hV.obj id ob hid).lt_size hl)
      refine hV'.join h1.2.1 hget (Nat.le_refl _) hNX fun j k o1 o2 _ hj hk => ?_
      obtain ⟨rfl, rfl⟩ := halloc k o2 hk
      rw [hblk]
      refine ⟨fun hl _ => ?_, fun _ hw => ?_⟩
      · have := (hV.obj j o1 hj).lt_size hl; omega
      · have := (hV.obj j o1 hj).lt_size (live_own hw); omega
    stp := by
      have hσS := hσ.2.2.1
      have hs := h.stp
      have split : ∀ k ob, (VH ops T c S').get k = some ob → (((VH ops T c S).get k = some ob) ∧ (upd σ (T i).next ⟨w.heap.size, 0, 0⟩ k) = σ k) ∨ w0.heap.size ≤ (upd σ (T i).next ⟨w.heap.size, 0, 0⟩ k).blk := by
        intro k ob hk
        rcases hget k ob hk with hk | hk
        · exact .inl ⟨hk, upd_ne _ _ (hVne k ob hk)⟩
        · obtain ⟨rfl, _⟩ := halloc k ob hk
          right; rw [upd_same]; exact hs.size
      have hH0 : H0.next ≤ (T i).next := by
        have := t.next_mono (i := 0) (j := i) (by omega) (Nat.le_of_lt hi)
        rw [t.start] at this
        exact this
      exact {
        ext := fun k hk => by rw [hs.ext k hk, upd_ne _ _ (by omega)]
        nxt := hs.nxt
        os := hσS.os.trans hs.os
        tape := hσS.tape.trans hs.tape
        output := hσS.output.trans hs.output
        size := Nat.le_trans hs.size hσS.size
        frame := fun b hb hn => by rw [hkeep b (Nat.lt_of_lt_of_le hb hs.size)]; exact hs.frame b hb hn
        foot := fun k ob hk hw => by
          rcases split k ob hk with ⟨h1, h2⟩ | h1
          · rw [h2]; exact hs.foot k ob h1 hw
          · exact .inr h1
        lv := fun k ob hk hw => by
          rcases split k ob hk with ⟨h1, h2⟩ | h1
          · rw [h2]; exact hs.lv k ob h1 hw
          · exact .inr h1 } }
end
end
end Go.Proofs.YtibeinbfhhoeiaaGreatDoor.Ab

namespace Go.Proofs.YtibeinbfhhoeiaaGreatDoor.Ab
open Go Go.Conc
noncomputable section

section
variable {P : Program} {r : Rec} {n : Nat} {ops : Array Oper} {F0 : Fr} {H0 : Heap} {T : Nat → DS} {m : Nat → Nat} {val : Nat → Value} {a0 a : Act} {σ0 σ : Sig} {w0 w : World} {c : Nat} {S S' : Nat → Bool}

def glue (b : Nat) (σ1 σ : Sig) : Sig := fun k => if k < b then σ1 k else σ k
theorem glue_lt {b : Nat} {σ1 σ : Sig} {k : Nat} (h : k < b) : glue b σ1 σ k = σ1 k := if_pos h
theorem glue_ge {b : Nat} {σ1 σ : Sig} {k : Nat} (h : b ≤ k) : glue b σ1 σ k = σ k := if_neg (by omega)

/-- Of a ready effect: those before it are done, and no other ones. -/
theorem Inv.at_effect (t : Trace P r n ops F0 H0 T m val) (h : Inv n ops F0 H0 T m val P a0 σ0 w0 c S σ a w) {i : Nat} {o : Oper} (hr : Ready ops m S S' i o) (hE : IsE T i)
    (hch : chained (m i) (T i).Es = true) : c ≤ i ∧ (T i).H = (T c).H ∧ ∀ k, k < ops.size → IsE T k → k < i → k < c := by
  have hi := hr.lt
  have hci : c ≤ i := by
    rcases Nat.lt_or_ge i c with hlt | hge
    · have := (h.eff i hi hE).2 hlt
      rw [hr.un] at this; cases this
    · exact hge
  have hk : ∀ k, k < ops.size → IsE T k → k < i → k < c := by
    intro k hk hEk hki
    have hmem : (⟨k, (T k).H⟩ : Was) ∈ (T i).Es := (t.Es_mem (Nat.le_of_lt hi) _).2 ⟨hki, hEk, rfl⟩
    exact (h.eff k hk hEk).1 (hr.ms k (chained_spec hch _ hmem))
  exact ⟨hci, t.H_const hci (Nat.le_of_lt hi) fun k h1 h2 hEk => by have := hk k (by omega) hEk h2; omega, hk⟩

theorem Inv.effect (hord : orderly ops = true) (t : Trace P r n ops F0 H0 T m val) (h : Inv n ops F0 H0 T m val P a0 σ0 w0 c S σ a w) {i : Nat} {o : Oper} (hr : Ready ops m S S' i o)
    (hE : IsE T i) (hch : chained (m i) (T i).Es = true) (hcov : covers (T i).H.next (m i) (T i).As = true) {H' : Heap} (hH' : (T (i + 1)).H = H') (hnx : (T (i + 1)).next = H'.next)
    (hA : (T (i + 1)).As = (T i).As) {σ1 : Sig} {w' : World} (hR1 : Rep P σ1 H' w') (hS1 : Stp σ ⟨viewT (T i).H.t (T i).H.next (bit (m i)) (T i).As, (T i).next⟩ w σ1 H' w')
    (hst : Stab H'.next (val i)) :
    ∃ σ', ren σ1 (val i) = ren σ' (val i) ∧ Inv n ops F0 H0 T m val P a0 σ0 w0 (i + 1) S' σ' (a.put o.dst (ren σ1 (val i))) w' := by
  have hi := hr.lt
  obtain ⟨hci, hHc, hEk⟩ := h.at_effect t hr hE hch
  rw [hHc] at hcov hS1
  have hcn := h.cn t
  have hnm : (T i).next ≤ H'.next := by rw [← hnx]; exact t.next_succ hi
  have hcT : (T c).H.next ≤ (T i).next := by rw [hcn]; exact t.next_mono hci (Nat.le_of_lt hi)
  have hNX : H'.next ≤ (T ops.size).next := by rw [← hnx]; exact t.next_mono hi (Nat.le_refl _)
  have hext : ∀ k, k < (T i).next → σ k = σ1 k := hS1.ext
  have hne : ∀ A ∈ (T ops.size).As, A.ix ≠ i := by
    intro A hAm e
    have h3 := ((t.As_mem (Nat.le_refl _) A).1 hAm).2.1
    rw [e, hA] at h3
    have := congrArg List.length h3
    simp at this
  have hSA : ∀ A ∈ (T ops.size).As, S' A.ix = S A.ix := fun A hAm => hr.old _ (hne A hAm)
  have hidlt : ∀ A ∈ (T ops.size).As, A.id < H'.next → A.id < (T i).next := by
    intro A hAm hlt
    have hmk := ((t.As_mem (Nat.le_refl _) A).1 hAm).2
    have hAN := ((t.As_mem (Nat.le_refl _) A).1 hAm).1
    rcases Nat.lt_trichotomy A.ix i with h1 | h1 | h1
    · exact t.makes_id hmk h1 (Nat.le_of_lt hi)
    · exact absurd h1 (hne A hAm)
    · have h2 := t.next_mono (i := i + 1) (j := A.ix) h1 (Nat.le_of_lt hAN)
      have := hmk.2.2.1
      omega
  refine ⟨glue H'.next σ1 σ, hst.ren_eq fun k hk => (glue_lt hk).symm, ?_⟩
  have hK : ∀ τ, Known ops T (i + 1) S' (glue H'.next σ1 σ) τ → Known ops T c S σ τ := by
    rintro τ ⟨h1, h2⟩
    rw [hH'] at h1
    refine ⟨fun k hk => ?_, fun A hAm hs => ?_⟩
    · rw [h1 k (by omega), glue_lt (by omega), hext k (by omega)]
    · rw [h2 A hAm (hr.mono hs)]
      rcases Nat.lt_or_ge A.id H'.next with hlt | hge
      · rw [glue_lt hlt]; exact (hext _ (hidlt A hAm hlt)).symm
      · exact glue_ge hge
  obtain ⟨p1, p2, p3, p4⟩ := vals_put hord t h hr hK (v' := ren σ1 (val i)) fun τ hτ => hst.ren_eq fun k hk => by
    have := hτ.1 k (by rw [hH']; exact hk)
    rw [this, glue_lt hk]
  have hVσ := h.rep σ (Known.refl σ)
  have hview : ∀ id ob, (⟨viewT (T c).H.t (T c).H.next (bit (m i)) (T i).As, (T i).next⟩ : Heap).get id = some ob → (VH ops T c S).get id = some ob ∧ id < (T i).next := by
    intro id ob hid
    rcases viewT_inv hid with ⟨A, hAm, hb, hp, rfl, rfl⟩ | hb
    · obtain ⟨h1, h2⟩ := (t.As_mem (Nat.le_of_lt hi) A).1 hAm
      have hAll := (t.As_mem (Nat.le_refl _) A).2 ⟨by omega, h2⟩
      exact ⟨VH_fresh t hAll hb (hr.ms _ hp), t.makes_id h2 h1 (Nat.le_of_lt hi)⟩
    · have := (h.base id ob hb).1
      exact ⟨VH_base h hb, by omega⟩
  -- what is pending
  have hpend : ∀ A ∈ (T ops.size).As, H'.next ≤ A.id → S' A.ix = true → S A.ix = true ∧ (VH ops T c S).get A.id = some A.obj ∧ A.obj.own = true ∧ StabObj (A.id + 1) A.obj := by
    intro A hAm hb hs
    rw [hSA A hAm] at hs
    exact ⟨hs, VH_fresh t hAm (by omega) hs, (h.own A hAm hs).2, (h.own A hAm hs).1⟩
  have hapart : ∀ A ∈ (T ops.size).As, H'.next ≤ A.id → S' A.ix = true → ∀ k ob, H'.get k = some ob → ob.live = true → (σ1 k).blk ≠ (σ A.id).blk := by
    intro A hAm hb hs k ob hk hl
    obtain ⟨_, hg, hw, _⟩ := hpend A hAm hb hs
    have hlt : (σ A.id).blk < w.heap.size := (hVσ.obj _ _ hg).lt_size (live_own hw)
    rcases hS1.lv k ob hk hl with ⟨j, o', hj, hl', e⟩ | hge
    · obtain ⟨hj', hjn⟩ := hview j o' hj
      rw [← e]
      exact hVσ.apart j A.id o' A.obj (by omega) hj' hg hl' hw
    · omega
  have hkeep : ∀ A ∈ (T ops.size).As, H'.next ≤ A.id → S' A.ix = true → w'.heap[(σ A.id).blk]? = w.heap[(σ A.id).blk]? := by
    intro A hAm hb hs
    obtain ⟨_, hg, hw, _⟩ := hpend A hAm hb hs
    have hlt : (σ A.id).blk < w.heap.size := (hVσ.obj _ _ hg).lt_size (live_own hw)
    refine hS1.frame _ hlt fun j oj hj hoj e => ?_
    obtain ⟨hj', hjn⟩ := hview j oj hj
    exact hVσ.apart j A.id oj A.obj (by omega) hj' hg (live_own hoj) hw e
  have hVget : ∀ id ob, (VH ops T (i + 1) S').get id = some ob → H'.get id = some ob ∨ (∃ A ∈ (T ops.size).As, H'.next ≤ A.id ∧ S' A.ix = true ∧ A.id = id ∧ ob = A.obj) := by
    intro id ob hid
    rcases VH_inv hid with h1 | h1
    · rw [hH'] at h1; exact .inr h1
    · rw [hH'] at h1; exact .inl h1
  exact {
    gl := h.gl
    cN := hi
    cE := .inr hE
    eff := fun k hk hEk' => by
      by_cases e : k = i
      · subst e; rw [hr.new]; simp
      · rw [hr.old k e, h.eff k hk hEk']
        constructor
        · intro h1; omega
        · intro h1; exact hEk k hk hEk' (by omega)
    down := down_put h hr
    bnd := bnd_put h hr
    made := fun A hAm hlt => by
      obtain ⟨h1, h2⟩ := (t.As_mem (Nat.le_refl _) A).1 hAm
      have hAi : A.ix < i := by have := hne A hAm; omega
      have hAT : A ∈ (T i).As := (t.As_mem (Nat.le_of_lt hi) A).2 ⟨hAi, h2⟩
      rcases Nat.lt_or_ge A.id (T c).H.next with hb | hb
      · refine hr.mono (h.made A hAm ?_)
        rcases Nat.lt_or_ge A.ix c with hlt' | hge
        · exact hlt'
        · have := t.next_mono hge (by omega)
          have := h2.2.2.1
          omega
      · exact hr.mono (hr.ms _ (covers_spec hcov A hAT hb))
    size := p1
    defs := p2
    vals := p3
    rest := p4
    stab := fun k hk => by
      rw [hH']
      by_cases e : k = i
      · subst e; exact hst.mono (Nat.le_max_right _ _)
      · exact (h.stab k (by rw [← hr.old k e]; exact hk)).mono (by omega)
    base := fun id ob hid => by rw [hH'] at hid ⊢; exact ⟨hR1.lt id ob hid, hR1.stab id ob hid⟩
    own := fun A hAm hs => h.own A hAm (by rw [← hSA A hAm]; exact hs)
    rep := fun τ hτ => by
      have hτ1 : ∀ k, k < H'.next → σ1 k = τ k := fun k hk => by
        have := hτ.1 k (by rw [hH']; exact hk)
        rw [this, glue_lt hk]
      have hτ2 : ∀ A ∈ (T ops.size).As, H'.next ≤ A.id → S' A.ix = true → τ A.id = σ A.id := fun A hAm hb hs => by
        have := hτ.2 A hAm hs
        rw [this, glue_ge (by omega)]
      have h1 := hR1.sig hτ1
      have hV := h.rep τ (hK τ hτ)
      have hPd : Rep P τ ⟨viewT .lf H'.next S' (T ops.size).As, (T ops.size).next⟩ w' := by
        refine (hV.sub (H' := ⟨viewT .lf H'.next S' (T ops.size).As, (T ops.size).next⟩) hV.glob.1 fun id ob hid => ?_).keep fun id ob hid hl => ?_
        · rcases viewT_inv hid with ⟨A, hAm, hb, hp, rfl, rfl⟩ | hb
          · obtain ⟨_, hg, _, hst'⟩ := hpend A hAm hb hp
            obtain ⟨h3, h4⟩ := (t.As_mem (Nat.le_refl _) A).1 hAm
            have := t.makes_id h4 h3 (Nat.le_refl _)
            exact ⟨hg, this, hst'.mono this⟩
          · cases hb
        · rcases viewT_inv hid with ⟨A, hAm, hb, hp, rfl, rfl⟩ | hb
          · rw [hτ2 A hAm hb hp]; exact hkeep A hAm hb hp
          · cases hb
      have hPg : ∀ id ob, (⟨viewT .lf H'.next S' (T ops.size).As, (T ops.size).next⟩ : Heap).get id = some ob → ∃ A ∈ (T ops.size).As, H'.next ≤ A.id ∧ S' A.ix = true ∧ A.id = id ∧ ob = A.obj := by
        intro id ob hid
        rcases viewT_inv hid with h3 | h3
        · exact h3
        · cases h3
      refine h1.join hPd (fun id ob hid => ?_) hNX (Nat.le_refl _) fun j k o1 o2 hjk hj hk => ?_
      · rcases hVget id ob hid with h3 | ⟨A, hAm, hb, hp, rfl, rfl⟩
        · exact .inl h3
        · exact .inr (viewT_fresh (t.As_inj (Nat.le_refl _)) A hAm hb hp)
      · obtain ⟨A, hAm, hb, hp, rfl, rfl⟩ := hPg k o2 hk
        rw [← hτ1 j (hR1.lt j o1 hj), hτ2 A hAm hb hp]
        exact ⟨fun hl _ => hapart A hAm hb hp j o1 hj hl, fun _ hw => Ne.symm (hapart A hAm hb hp j o1 hj (live_own hw))⟩
    stp := by
      have hs := h.stp
      have hH0 : H0.next ≤ (T i).next := by
        have := t.next_mono (i := 0) (j := i) (by omega) (Nat.le_of_lt hi)
        rw [t.start] at this
        exact this
      exact {
        ext := fun k hk => by
          show σ0 k = glue H'.next σ1 σ k
          rw [hs.ext k hk, glue_lt (by omega), hext k (by omega)]
        nxt := hs.nxt
        os := hS1.os.trans hs.os
        tape := hS1.tape.trans hs.tape
        output := hS1.output.trans hs.output
        size := Nat.le_trans hs.size hS1.size
        frame := fun b hb hn => by
          rw [hS1.frame b (Nat.lt_of_lt_of_le hb hs.size) fun j oj hj hoj e => ?_]
          · exact hs.frame b hb hn
          · obtain ⟨hj', _⟩ := hview j oj hj
            rcases hs.foot j oj hj' hoj with ⟨j0, o0, h1, h2, h3⟩ | h1
            · exact hn j0 o0 h1 h2 (h3.trans e)
            · omega
        foot := fun k ob hk hw => by
          show (∃ j o', H0.get j = some o' ∧ o'.own = true ∧ (σ0 j).blk = (glue H'.next σ1 σ k).blk) ∨ w0.heap.size ≤ (glue H'.next σ1 σ k).blk
          rcases hVget k ob hk with h3 | ⟨A, hAm, hb, hp, rfl, rfl⟩
          · rw [glue_lt (hR1.lt k ob h3)]
            rcases hS1.foot k ob h3 hw with ⟨j, o', hj, hl', e⟩ | hge
            · rw [← e]; exact hs.foot j o' (hview j o' hj).1 hl'
            · exact .inr (Nat.le_trans hs.size hge)
          · rw [glue_ge (by omega)]
            exact hs.foot A.id A.obj (hpend A hAm hb hp).2.1 hw
        lv := fun k ob hk hw => by
          show (∃ j o', H0.get j = some o' ∧ o'.live = true ∧ (σ0 j).blk = (glue H'.next σ1 σ k).blk) ∨ w0.heap.size ≤ (glue H'.next σ1 σ k).blk
          rcases hVget k ob hk with h3 | ⟨A, hAm, hb, hp, rfl, rfl⟩
          · rw [glue_lt (hR1.lt k ob h3)]
            rcases hS1.lv k ob h3 hw with ⟨j, o', hj, hl', e⟩ | hge
            · rw [← e]; exact hs.lv j o' (hview j o' hj).1 hl'
            · exact .inr (Nat.le_trans hs.size hge)
          · rw [glue_ge (by omega)]
            exact hs.lv A.id A.obj (hpend A hAm hb hp).2.1 hw } }
end
end
end Go.Proofs.YtibeinbfhhoeiaaGreatDoor.Ab

namespace Go.Proofs.YtibeinbfhhoeiaaGreatDoor.Ab
open Go Go.Conc
noncomputable section

section
variable {P : Program} {r : Rec} {n : Nat} {ops : Array Oper} {F0 : Fr} {H0 : Heap} {T : Nat → DS} {m : Nat → Nat} {val : Nat → Value} {a0 a : Act} {σ0 σ : Sig} {w0 w : World} {c : Nat} {S S' : Nat → Bool}

theorem Inv.opnds (t : Trace P r n ops F0 H0 T m val) (hord : orderly ops = true) (h : Inv n ops F0 H0 T m val P a0 σ0 w0 c S σ a w) (hF0 : ∀ d v, F0.get d = some v → Stab H0.next v)
    {i : Nat} {o : Oper} (hr : Ready ops m S S' i o) :
    (∀ τ, Known ops T c S σ τ → ∀ x y, cut ((T i).F.ev P) o x = some y → a.eval x = ren τ y) ∧ (∀ x y, cut ((T i).F.ev P) o x = some y → Stab (max (T i).next (T c).H.next) y) ∧
    (∀ g, guardB ops (T i).F o.guard = some g → Region.wanted o (yielded ops a.tmps) = g) := by
  have hrd := fun d hd v hv => h.reads t hord hF0 hr.ho hr.un hr.ms (d := d) hd (v := v) hv
  have hmem : ∀ {d : Tmp}, Operand.tmp d ∈ o.op.operands → d ∈ readsOf ops o := fun {d} hx => List.mem_append_left _ (List.mem_filterMap.2 ⟨.tmp d, by simpa using hx, rfl⟩)
  refine ⟨fun τ hτ x y hxy => ?_, fun x y hxy => ?_, fun g hg => ?_⟩
  · obtain ⟨hx, hxy⟩ := cut_some hxy
    cases x with
    | tmp d => simp [Act.eval, (hrd d (hmem hx) y hxy).1 τ hτ]
    | const v =>
      simp only [Fr.ev] at hxy
      split at hxy
      · rename_i hc
        cases hxy
        simp [Act.eval, ren_clo τ y hc]
      · cases hxy
    | func f => simp only [Fr.ev, Option.some.injEq] at hxy; subst hxy; simp [Act.eval, ren, renArr, renL]
    | global g =>
      simp only [Fr.ev] at hxy
      split at hxy
      · cases hxy
      · rename_i hb
        cases hxy
        have hg : g < P.globals.size := by
          rcases Nat.lt_or_ge g P.globals.size with h' | h'
          · exact h'
          · rw [Nat.ble_eq_true_of_le h'] at hb; cases hb
        simp [Act.eval, ren, renAddr, (h.rep τ hτ).glob.2 g hg]
  · obtain ⟨hx, hxy⟩ := cut_some hxy
    cases x with
    | tmp d => exact (hrd d (hmem hx) y hxy).2
    | const v =>
      simp only [Fr.ev] at hxy
      split at hxy
      · rename_i hc; cases hxy; exact .clo hc
      · cases hxy
    | func f => simp only [Fr.ev, Option.some.injEq] at hxy; subst hxy; exact .clo rfl
    | global g =>
      simp only [Fr.ev] at hxy
      split at hxy
      · cases hxy
      · rename_i hb
        cases hxy
        have hg : g < P.globals.size := by
          rcases Nat.lt_or_ge g P.globals.size with h' | h'
          · exact h'
          · rw [Nat.ble_eq_true_of_le h'] at hb; cases hb
        exact stab_ptr (by have := h.glN t; omega) 0
  · exact guard_of (τ := σ) (fun d hd v hv => (hrd d hd v hv).1 σ (Known.refl σ)) hg

theorem xlook_cut {ρ : Operand → Option Value} {o : Oper} {H : Heap} : xlook P (cut ρ o) H o = xlook P ρ H o := by
  unfold xlook
  rw [xheap_cut]

theorem Inv.A_lt (t : Trace P r n ops F0 H0 T m val) {i : Nat} (hi : i ≤ ops.size) : ∀ A ∈ (T i).As, A.id < (T i).next := by
  intro A hA
  obtain ⟨h1, h2⟩ := (t.As_mem hi A).1 hA
  exact t.makes_id h2 h1 hi

/-- What is looked at. -/
theorem Inv.look (t : Trace P r n ops F0 H0 T m val) (hord : orderly ops = true) (h : Inv n ops F0 H0 T m val P a0 σ0 w0 c S σ a w) (hF0 : ∀ d v, F0.get d = some v → Stab H0.next v)
    {i : Nat} {o : Oper} (hr : Ready ops m S S' i o) (hl : DidLook P ops i (m i) o (T i) (T (i + 1)) (val i) (T (i + 1)).F) :
    (∀ τ, Known ops T c S σ τ → (execOp a.eval o).run P w = .ok (.value (ren τ (val i))) w) ∧ Stab (max (T i).next (T c).H.next) (val i) := by
  have hi := hr.lt
  have hcn := h.cn t
  obtain ⟨h1, h2, _⟩ := h.opnds t hord hF0 hr
  have hl' := hl
  obtain ⟨_, hcl, hlk, hbk, hsh⟩ := hl
  have hnE : ¬ IsE T i := not_isE (by rw [hsh])
  -- which heap it looks at
  have key : ∀ (nx : Nat) (As : List Fresh) (j : Nat), As = (T j).As → j ≤ ops.size → (T c).H.next ≤ nx → (∀ A ∈ As, (T c).H.next ≤ A.id → A.id < nx) → max (T i).next (T c).H.next = nx →
      xlook P ((T i).F.ev P) ⟨viewT (T c).H.t (T c).H.next (bit (m i)) As, nx⟩ o = some (val i) →
      (∀ τ, Known ops T c S σ τ → (execOp a.eval o).run P w = .ok (.value (ren τ (val i))) w) ∧ Stab (max (T i).next (T c).H.next) (val i) := by
    intro nx As j hAs hj hn hA hmax hx
    subst hAs
    rw [← xlook_cut] at hx
    have hrun := fun τ hτ => does_look (h1 τ hτ) (fun x y hxy => by have := h2 x y hxy; rw [hmax] at this; exact this) (h.view t hj hr.ms hn hA hτ) hcl hx
    exact ⟨fun τ hτ => (hrun τ hτ).1, by rw [hmax]; exact (hrun σ (Known.refl σ)).2⟩
  rcases Nat.lt_or_ge i c with hlt | hge
  · -- a later effect is done
    rcases h.cE with e | e
    · omega
    · have e1 : c - 1 + 1 = c := by omega
      have hcs : c - 1 < ops.size := by have := h.cN; omega
      obtain ⟨oc, hoc⟩ := lt_get hcs
      have hne : i ≠ c - 1 := fun e' => hnE (e' ▸ e)
      have hS : S (c - 1) = true := (h.eff _ hcs e).2 (by omega)
      have hbit : bit (m (c - 1)) i = false := by
        cases hb : bit (m (c - 1)) i with
        | false => rfl
        | true => have := h.down _ _ hoc hS i hb; rw [hr.un] at this; cases this
      have hmem := t.Rs_mem (Nat.le_of_lt hcs) i o hr.ho (by omega) hl'
      have hE' := e
      unfold IsE at hE'
      rcases t.did (c - 1) oc hoc with ⟨hd, _⟩ | ⟨_, _, _, _, hd⟩ | ⟨_, _, _, _, _, _, hd⟩ | ⟨_, _, _, H', _, hfo, _, hd⟩
      · exact absurd e (not_isE (by rw [hd]))
      · exact absurd e (not_isE (by rw [hd]))
      · exact absurd e (not_isE (by rw [hd]))
      · have hx := forth_spec hfo _ hmem hbit
        simp only at hx
        have hH : (T (c - 1 + 1)).H = H' := by rw [hd]
        rw [e1] at hH
        rw [← hH] at hx
        have hmx : max (T i).next (T c).H.next = (T c).H.next := by
          have := t.next_mono (i := i) (j := c) (by omega) h.cN
          omega
        have hAlt := Inv.A_lt t h.cN
        have hno : ∀ A ∈ (T c).As, ¬ (T c).H.next ≤ A.id := fun A hA hle => by have := hAlt A hA; omega
        have hv : viewT (T c).H.t (T c).H.next (bit (m i)) (T c).As = (T c).H.t := by
          have : ∀ l : List Fresh, (∀ A ∈ l, ¬ (T c).H.next ≤ A.id) → viewT (T c).H.t (T c).H.next (bit (m i)) l = (T c).H.t := by
            intro l
            induction l with
            | nil => intro _; rfl
            | cons x l ih =>
              intro hl
              simp only [viewT]
              split
              · rename_i hb _; exact absurd (Nat.le_of_ble_eq_true hb) (hl x (.head _))
              · exact ih fun A hA => hl A (.tail _ hA)
          exact this _ hno
        exact key (T c).H.next (T c).As c rfl h.cN (Nat.le_refl _) (fun A hA hle => absurd hle (hno A hA)) hmx (by rw [hv]; exact hx)
  · have hmx : max (T i).next (T c).H.next = (T i).next := by
      have := t.next_mono hge (Nat.le_of_lt hi)
      omega
    have hle : (T c).H.next ≤ (T i).next := by omega
    have hAlt := Inv.A_lt t (Nat.le_of_lt hi)
    by_cases hex : ∃ k, c ≤ k ∧ k < i ∧ IsE T k
    · -- the first effect that is not done
      have hfirst : ∃ k, c ≤ k ∧ k < i ∧ IsE T k ∧ ∀ j, c ≤ j → j < k → ¬ IsE T j := by
        obtain ⟨k, hk⟩ := hex
        induction k using Nat.strongRecOn with
        | ind k ih =>
          by_cases h' : ∃ j, c ≤ j ∧ j < k ∧ IsE T j
          · obtain ⟨j, h1, h2, h3⟩ := h'
            exact ih j h2 ⟨h1, by omega, h3⟩
          · exact ⟨k, hk.1, hk.2.1, hk.2.2, fun j h1 h2 h3 => h' ⟨j, h1, h2, h3⟩⟩
      obtain ⟨k, hk1, hk2, hk3, hk4⟩ := hfirst
      have hHk : (T k).H = (T c).H := t.H_const hk1 (by omega) hk4
      have hkn : S k = false := by
        cases hs : S k with
        | false => rfl
        | true => have := (h.eff k (by omega) hk3).1 hs; omega
      have hbit : bit (m i) k = false := by
        cases hb : bit (m i) k with
        | false => rfl
        | true => have := hr.ms k hb; rw [hkn] at this; cases this
      have hmem : (⟨k, (T k).H⟩ : Was) ∈ (T i).Es := (t.Es_mem (Nat.le_of_lt hi) _).2 ⟨hk2, hk3, rfl⟩
      have hx := back_spec hbk _ hmem hbit
      simp only [hHk] at hx
      exact key _ _ i rfl (Nat.le_of_lt hi) hle (fun A hA _ => hAlt A hA) hmx hx
    · have hHi : (T i).H = (T c).H := t.H_const hge (Nat.le_of_lt hi) fun k h1 h2 h3 => hex ⟨k, h1, h2, h3⟩
      rw [hHi] at hlk
      exact key _ _ i rfl (Nat.le_of_lt hi) hle (fun A hA _ => hAlt A hA) hmx hlk

/-- A ready operation is carried out. -/
theorem Inv.step (t : Trace P r n ops F0 H0 T m val) (hc : SoundCall P r) (hord : orderly ops = true) (h : Inv n ops F0 H0 T m val P a0 σ0 w0 c S σ a w) (hF0 : ∀ d v, F0.get d = some v → Stab H0.next v)
    {i : Nat} {o : Oper} (hr : Ready ops m S S' i o) {Q : Exit → Act → World → Prop} {K : Act → World → Prop}
    (hK : ∀ c' σ' a' w', Inv n ops F0 H0 T m val P a0 σ0 w0 c' S' σ' a' w' → K a' w') : wpOp P ops Q i K a w := by
  have hi := hr.lt
  have hcn := h.cn t
  obtain ⟨h1, h2, h3⟩ := h.opnds t hord hF0 hr
  have hru : ren σ undef = undef := ren_clo _ _ rfl
  unfold wpOp
  simp only [hr.ho]
  have hnx := t.next_succ hi
  rcases t.did i o hr.ho with ⟨hsh, hg⟩ | hl | ⟨hg, hcl, H', obj, hx, hget, hsh⟩ | ⟨hg, hch, hcov, H', hx, hfo, hle, hsh⟩
  · rcases hg with ⟨hg, hv⟩ | ⟨hg, hx⟩
    · rw [h3 _ hg]
      simp only [Bool.false_eq_true, if_false]
      exact hK _ _ _ _ (h.quiet hord t hr (not_isE (by rw [hsh])) (by rw [hsh]) (fun τ _ => by rw [hv]; exact (ren_clo τ undef rfl).symm) (by rw [hv]; exact .clo rfl))
    · rw [h3 _ hg]
      simp only [if_true]
      left
      rw [← xpure_cut] at hx
      have hrun := fun τ hτ => is_pure (h1 τ hτ) hx w
      unfold Oper.wp
      rw [hrun σ (Known.refl σ), Oper.upon_value]
      refine hK _ _ _ _ (h.quiet hord t hr (not_isE (by rw [hsh])) (by rw [hsh]) (fun τ hτ => ?_) ((stab_pure h2 hx).mono (by omega)))
      have e1 := hrun τ hτ
      have e2 := hrun σ (Known.refl σ)
      rw [e1] at e2
      simp only [Result.ok.injEq, Next.value.injEq, and_true] at e2
      exact e2.symm
  · have hlk := h.look t hord hF0 hr hl
    obtain ⟨hg, _, _, _, hsh⟩ := hl
    rw [h3 _ hg]
    simp only [if_true]
    left
    unfold Oper.wp
    rw [hlk.1 σ (Known.refl σ), Oper.upon_value]
    refine hK _ _ _ _ (h.quiet hord t hr (not_isE (by rw [hsh])) (by rw [hsh]) (fun τ hτ => ?_) (hlk.2.mono (by omega)))
    have e1 := hlk.1 τ hτ
    have e2 := hlk.1 σ (Known.refl σ)
    rw [e1] at e2
    simp only [Result.ok.injEq, Next.value.injEq, and_true] at e2
    exact e2.symm
  · rw [h3 _ hg]
    simp only [if_true]
    left
    rw [← xheap_cut] at hx
    have hA : (T (i + 1)).As = ⟨i, (T i).next, obj⟩ :: (T i).As := by rw [hsh]
    have hci : c ≤ i := by
      rcases Nat.lt_or_ge i c with hlt | hge
      · have hA0 : (⟨i, (T i).next, obj⟩ : Fresh) ∈ (T ops.size).As := (t.As_mem (Nat.le_refl _) _).2 ⟨hi, hA, rfl, rfl, by rw [hsh]⟩
        have := h.made _ hA0 hlt
        simp only at this
        rw [hr.un] at this; cases this
      · exact hge
    have hmx : max (T i).next (T c).H.next = (T i).next := by
      have := t.next_mono hci (Nat.le_of_lt hi)
      omega
    have hdo := fun τ hτ => does_fresh (σ := τ) (H := ⟨.lf, (T i).next⟩) (w := w) (h1 τ hτ) (fun x y hxy => by have := h2 x y hxy; rw [hmx] at this; exact this) (rep_empty P τ _ w ⟨by have := h.glN t; omega, (h.rep τ hτ).glob.2⟩) hcl hx
    obtain ⟨⟨w', hrun, _⟩, obj', hal, hown⟩ := hdo σ (Known.refl σ)
    have hobj : obj' = obj := by
      rw [hal] at hget
      have : (Heap.alloc ⟨.lf, (T i).next⟩ obj').get (T i).next = some obj' := Heap.get_alloc_same _ _
      rw [this] at hget
      exact Option.some.inj hget
    subst hobj
    subst hal
    unfold Oper.wp
    rw [hrun, Oper.upon_value]
    refine hK _ _ _ _ (h.fresh hord t hr (by rw [hsh]) hA (by rw [hsh]) hown fun τ hτ => ?_)
    obtain ⟨⟨w'', hrun', hR', hS', hst'⟩, _⟩ := hdo τ hτ
    rw [hrun] at hrun'
    simp only [Result.ok.injEq, Next.value.injEq] at hrun'
    obtain ⟨e1, e2⟩ := hrun'
    subst e2
    exact ⟨e1, hR', hS', hst'⟩
  · rw [h3 _ hg]
    simp only [if_true]
    left
    have hE : IsE T i := by unfold IsE; rw [hsh]
    obtain ⟨hci, hHc, _⟩ := h.at_effect t hr hE hch
    have hmx : max (T i).next (T c).H.next = (T i).next := by
      have := t.next_mono hci (Nat.le_of_lt hi)
      omega
    have hview : Rep P σ ⟨viewT (T i).H.t (T i).H.next (bit (m i)) (T i).As, (T i).next⟩ w := by
      rw [hHc]
      exact h.view t (Nat.le_of_lt hi) hr.ms (by omega) (fun A hA _ => Inv.A_lt t (Nat.le_of_lt hi) A hA) (Known.refl σ)
    have fin : ∀ σ1 w', Rep P σ1 H' w' → Stp σ ⟨viewT (T i).H.t (T i).H.next (bit (m i)) (T i).As, (T i).next⟩ w σ1 H' w' → Stab H'.next (val i) → K (a.put o.dst (ren σ1 (val i))) w' := by
      intro σ1 w' hR1 hS1 hst
      obtain ⟨σ', _, hI⟩ := h.effect hord t hr hE hch hcov (by rw [hsh]) (by rw [hsh]) (by rw [hsh]) hR1 hS1 hst
      exact hK _ _ _ _ hI
    have hst2 : ∀ x y, cut ((T i).F.ev P) o x = some y → Stab (⟨viewT (T i).H.t (T i).H.next (bit (m i)) (T i).As, (T i).next⟩ : Heap).next y := fun x y hxy => by
      have := h2 x y hxy; rw [hmx] at this; exact this
    unfold doE at hx
    split at hx
    · rw [← xheap_cut] at hx
      obtain ⟨σ1, w', res, hrun, hres, hR1, hS1, hst⟩ := does_heap (h1 σ (Known.refl σ)) hst2 hview hx
      unfold Oper.wp
      rw [hrun]
      rcases hres with rfl | ⟨rfl, hu⟩
      · rw [Oper.upon_value]; exact fin σ1 w' hR1 hS1 hst
      · rw [Oper.upon_skip]
        have := fin σ1 w' hR1 hS1 hst
        rw [hu, show ren σ1 undef = undef from ren_clo _ _ rfl] at this
        exact this
    · rename_i hcl
      split at hx
      · rename_i cl hop
        have hcal : ∃ fo, cl.callee = .value fo := by
          rw [hop] at hcl
          simp only [clOf] at hcl
          cases hcc : cl.callee with
          | value fo => exact ⟨fo, rfl⟩
          | invoke a b => rw [hcc] at hcl; cases hcl
          | builtin bu => rw [hcc] at hcl; cases bu <;> cases hcl
        obtain ⟨fo, hcal⟩ := hcal
        simp only [soCall, hcal] at hx
        rw [← soValue_cut hop hcal] at hx
        unfold soValue at hx
        split at hx
        · rename_i f hf
          split at hx
          · rename_i l hl
            cases hce : callee f l with
            | none => rw [hce] at hx; simp [soEnter, dEnd] at hx
            | some p =>
              obtain ⟨g, l'⟩ := p
              rw [hce] at hx
              simp only [soEnter] at hx
              obtain ⟨d, hd, _, hinv⟩ := callee_spec (P := P) hce σ w
              cases hcall : r.call g l' ⟨viewT (T i).H.t (T i).H.next (bit (m i)) (T i).As, (T i).next⟩ with
              | none => rw [hcall] at hx; simp [soEnd, dEnd] at hx
              | panic v' H'' => rw [hcall] at hx; simp [soEnd, dEnd] at hx
              | ret v' H'' =>
                rw [hcall] at hx
                simp only [soEnd, dEnd, Option.some.injEq, Prod.mk.injEq] at hx
                obtain ⟨rfl, rfl⟩ := hx
                obtain ⟨hen, hcs⟩ := hc g l' _ (by rw [hcall]; simp)
                have hst' := callee_stab hce (hst2 _ _ hf) (xlist_mem hst2 _ _ hl)
                obtain ⟨hret, _⟩ := hcs σ w hview hst'
                have hcalls := hret _ _ hcall
                have eargs : cl.args.map a.eval = ⟨l.map (ren σ)⟩ := by
                  rw [← xlist_ren (h1 σ (Known.refl σ)) _ _ hl, ← Array.toList_map]
                have hrun : (execOp a.eval o).run P w = .ok (.enter g ⟨l'.map (ren σ)⟩) w := by
                  simp only [execOp, hop, resolve, hcal, eargs, h1 σ (Known.refl σ) _ _ hf]
                  rw [Sem.run_bind, hd]
                  exact hinv hen
                unfold Oper.wp
                rw [hrun, Oper.upon_enter]
                refine hcalls.mono fun e w' he => ?_
                obtain ⟨σ1, rfl, hR1, hS1, hst⟩ := he
                exact fin σ1 w' hR1 hS1 hst
          · simp [dEnd] at hx
        · simp [dEnd] at hx
      · cases hx
    · cases hx

end
end
end Go.Proofs.YtibeinbfhhoeiaaGreatDoor.Ab

namespace Go.Proofs.YtibeinbfhhoeiaaGreatDoor.Ab
open Go Go.Conc
noncomputable section

/-- The world tells nothing. -/
def WI (P : Program) {α : Type} (m : Sem α) : Prop := (∃ x, ∀ w, m.run P w = .ok x w) ∨ ∀ w x w', m.run P w ≠ .ok x w'
theorem WI.pure {P : Program} {α : Type} (x : α) : WI P (Pure.pure x : Sem α) := .inl ⟨x, fun _ => rfl⟩
theorem WI.bind {P : Program} {α β : Type} {m : Sem α} {f : α → Sem β} (h : WI P m) (k : ∀ x, WI P (f x)) : WI P (m >>= f) := by
  rcases h with ⟨x, h⟩ | h
  · rcases k x with ⟨y, k⟩ | k
    · exact .inl ⟨y, fun w => by rw [Sem.run_bind, h w]; exact k w⟩
    · exact .inr fun w y w' => by rw [Sem.run_bind, h w]; exact k w y w'
  · refine .inr fun w y w' => ?_
    rw [Sem.run_bind]
    cases hm : m.run P w with
    | ok x w1 => exact absurd hm (h w x w1)
    | halt e w1 => simp
theorem WI.stuck {P : Program} {α : Type} (s : String) : WI P (stuck s : Sem α) := .inr fun w x w' h => by cases h
theorem WI.program {P : Program} : WI P (program : Sem Program) := .inl ⟨P, fun _ => rfl⟩
theorem WI.under {P : Program} (t : TypeId) : WI P (underlying t) := by
  unfold underlying
  refine WI.program.bind fun p => ?_
  split
  · exact .pure _
  · exact .stuck _
theorem WI.size {P : Program} (t : TypeId) : WI P (sizeOf t) := by
  unfold sizeOf typeInfo
  refine WI.bind (WI.program.bind fun p => ?_) fun _ => .pure _
  split
  · exact .pure _
  · exact .stuck _
theorem WI.sureAddr {P : Program} (x : Value) : WI P (Instr.sureAddr x) := by
  unfold Instr.sureAddr
  split
  · exact .pure _
  · exact .stuck _

theorem WI.never {P : Program} {α : Type} {m : Sem α} (h : ∀ w x w', m.run P w ≠ .ok x w') : WI P m := .inr h
theorem never_panic {P : Program} {α : Type} (v : Value) : ∀ w x w', (goPanic v : Sem α).run P w ≠ .ok x w' := fun w x w' h => by cases h
theorem WI.bounds {P : Program} {α : Type} (x : Int) (y : Nat) (s : Bool) (c : BoundsCode) : WI P (runtimePanic (.bounds x y s c) : Sem α) := .inr fun w a w' h => by
  cases h
theorem WI.nilDeref {P : Program} {α : Type} : WI P (runtimePanic .nilDeref : Sem α) := .inr fun w a w' h => by cases h
theorem WI.int {P : Program} (v : Value) : WI P (asIntOf v) := by
  unfold asIntOf
  split
  · exact .pure _
  · exact .inr fun w a w' h => by cases h
  · exact .stuck _
theorem WI.addr {P : Program} (v : Value) : WI P (asAddr v) := by
  unfold asAddr
  split
  · exact .pure _
  · exact .nilDeref
  · exact .stuck _
theorem WI.bound {P : Program} (v : Value) (n : Nat) (k : BoundsCode) : WI P (Instr.sliceBound v n k) := by
  unfold Instr.sliceBound
  refine (WI.int v).bind fun p => ?_
  obtain ⟨k', i⟩ := p
  simp only
  split
  · exact .pure _
  · unfold boundsPanic
    have key : ∀ {m : Sem Bool} {f : Bool → Sem Nat}, (∀ b w x w', (f b).run P w ≠ .ok x w') → WI P (m >>= f) := fun {m f} hf => .inr fun w x w' h => by
      rw [Sem.run_bind] at h
      cases hm : m.run P w with
      | ok b w1 => rw [hm] at h; exact hf b w1 x w' h
      | halt e w1 => rw [hm] at h; cases h
    simp only
    split
    · exact key fun b w x w' h => by cases h
    · exact key fun b w x w' h => by cases h
theorem WI.sbounds {P : Program} (s : Bool) (n c : Nat) (lo hi mx : Option Value) : WI P (Instr.sliceBounds s n c lo hi mx) := by
  unfold Instr.sliceBounds
  cases mx <;> cases hi <;> cases lo <;>
    exact WI.bind (by first | exact WI.pure _ | exact WI.bound _ _ _) fun m => WI.bind (by first | exact WI.pure _ | exact WI.bound _ _ _ | exact WI.stuck _) fun h => WI.bind (by first | exact WI.pure _ | exact WI.bound _ _ _) fun l => WI.pure _
theorem WI.slice {P : Program} (t : TypeId) (x : Value) (lo hi mx : Option Value) : WI P (Instr.slice t x lo hi mx) := by
  unfold Instr.slice
  refine (WI.under t).bind fun u => ?_
  split
  · split
    · exact WI.bind (.stuck _) fun _ => WI.bind (.sbounds _ _ _ _ _ _) fun _ => .pure _
    · exact WI.bind (.sbounds _ _ _ _ _ _) fun _ => .pure _
  · exact WI.bind (.sbounds _ _ _ _ _ _) fun _ => WI.bind (.size _) fun _ => .pure _
  · refine WI.bind (.addr _) fun a => WI.bind (.under _) fun d => ?_
    split
    · exact WI.bind (.sbounds _ _ _ _ _ _) fun _ => WI.bind (.size _) fun _ => .pure _
    · exact .stuck _
  · exact .stuck _
theorem WI.sliceAt {P : Program} (t : TypeId) (x : Value) (lo hi mx : Option Value) : WI P (Instr.sliceAt t x lo hi mx) := by
  unfold Instr.sliceAt
  refine (WI.under t).bind fun u => ?_
  split
  · exact WI.bind (.sureAddr _) fun a => WI.bind (.sbounds _ _ _ _ _ _) fun _ => WI.bind (.size _) fun _ => .pure _
  · exact .slice _ _ _ _ _

theorem waitsFor_spec {i : Nat} : ∀ {es : List Edge}, waitsFor i es = true → ∃ e ∈ es, Region.binds .any e = true ∧ e.on = i
  | [], h => by cases h
  | e :: l, h => by
    simp only [waitsFor, Bool.or_eq_true, Bool.and_eq_true] at h
    rcases h with ⟨h1, h2⟩ | h
    · exact ⟨e, .head _, h1, Nat.eq_of_beq_eq_true h2⟩
    · obtain ⟨e', h1, h2⟩ := waitsFor_spec h
      exact ⟨e', .tail _ h1, h2⟩
theorem readyL_spec {done : List Nat} : ∀ {es : List Edge}, readyL done es = true ↔ ∀ e ∈ es, Region.binds .any e = true → memN e.on done = true
  | [] => by simp [readyL]
  | e :: l => by
    simp only [readyL, Bool.and_eq_true, Bool.or_eq_true, Bool.not_eq_true', List.forall_mem_cons]
    rw [readyL_spec]
    constructor
    · rintro ⟨h1, h2⟩
      exact ⟨fun hb => h1.resolve_left (by simp [hb]), h2⟩
    · rintro ⟨h1, h2⟩
      refine ⟨?_, h2⟩
      cases hb : Region.binds .any e with
      | false => exact .inl rfl
      | true => exact .inr (h1 hb)
theorem looksAt_eq (ops : Array Oper) (o : Oper) : o.looksAt ops = readsOf ops o := by
  unfold Oper.looksAt readsOf guardTmp
  have e : (fun x => match x with | .tmp t => some t | _ => none : Operand → Option Tmp) = tmpOf := by funext x; cases x <;> rfl
  refine congr (congrArg _ (by rw [← e]; rfl)) ?_
  cases o.guard with
  | none => rfl
  | some p =>
    obtain ⟨g, b⟩ := p
    simp only
    rw [nth_eq]
    simp only [Array.getElem?_toList]
    cases ops[g]? <;> rfl
theorem apartB_spec {ops : Array Oper} {x y : Oper} (h : apartB ops x y = true) : x.apart ops y = true := by
  unfold apartB at h
  unfold Oper.apart
  rw [looksAt_eq, looksAt_eq]
  simp only [Bool.and_eq_true] at h ⊢
  obtain ⟨h1, h2⟩ := h
  constructor
  · cases hx : x.dst with
    | none => rfl
    | some d =>
      rw [hx] at h1
      simp only [Bool.and_eq_true, Bool.not_eq_true'] at h1 ⊢
      refine ⟨?_, ?_⟩
      · simp only [List.contains_eq_mem, decide_eq_false_iff_not]
        intro hm
        rw [memN_iff.2 hm] at h1
        exact absurd h1.1 (by simp)
      · cases hy : y.dst with
        | none => rfl
        | some e =>
          rw [hy] at h1
          simp only [Bool.not_eq_true'] at h1
          have : d ≠ e := fun he => by rw [he, Nat.beq_refl] at h1; exact absurd h1.2 (by simp)
          simpa using fun h => this h.symm
  · cases hy : y.dst with
    | none => rfl
    | some d =>
      rw [hy] at h2
      simp only [Bool.not_eq_true'] at h2 ⊢
      simp only [List.contains_eq_mem, decide_eq_false_iff_not]
      intro hm
      rw [memN_iff.2 hm] at h2
      cases h2
theorem freeB_spec {ops : Array Oper} {done : List Nat} {i : Nat} {o : Oper} : ∀ {l : List Oper} {k : Nat}, freeB ops done i o l k = true → ∀ j p, l[j]? = some p → k + j ≠ i → memN (k + j) done = false → waitsFor i p.after.toList = false → apartB ops o p = true
  | [], _, _, j, p, hj, _, _, _ => by simp at hj
  | q :: l, k, h, j, p, hj, h1, h2, h3 => by
    simp only [freeB, Bool.and_eq_true, Bool.or_eq_true] at h
    cases j with
    | zero =>
      simp only [List.getElem?_cons_zero, Option.some.injEq] at hj
      subst hj
      rcases h.1 with ((h4 | h4) | h4) | h4
      · exact absurd (Nat.eq_of_beq_eq_true h4) h1
      · rw [Nat.add_zero] at h2; rw [h4] at h2; cases h2
      · rw [h4] at h3; cases h3
      · exact h4
    | succ j =>
      exact freeB_spec h.2 j p (by simpa using hj) (by omega) (by rw [show k + 1 + j = k + (j + 1) by omega]; exact h2) h3
theorem onlyB_spec {done : List Nat} {i : Nat} : ∀ {l : List Oper} {k : Nat}, onlyB done i l k = true → ∀ j p, l[j]? = some p → memN (k + j) done = false → readyL done p.after.toList = true → k + j = i
  | [], _, _, j, p, hj, _, _ => by simp at hj
  | q :: l, k, h, j, p, hj, h1, h2 => by
    simp only [onlyB, Bool.and_eq_true, Bool.or_eq_true, Bool.not_eq_true'] at h
    cases j with
    | zero =>
      simp only [List.getElem?_cons_zero, Option.some.injEq] at hj
      subst hj
      rcases h.1 with (h4 | h4) | h4
      · exact Nat.eq_of_beq_eq_true h4
      · rw [Nat.add_zero] at h1; rw [h4] at h1; cases h1
      · rw [h4] at h2; cases h2
    | succ j =>
      have := onlyB_spec h.2 j p (by simpa using hj) (by rw [show k + 1 + j = k + (j + 1) by omega]; exact h1) h2
      omega
theorem allIn_spec {l : List Nat} : ∀ {n : Nat}, allIn l n = true → ∀ k, k < n → memN k l = true
  | 0, _, k, hk => by omega
  | n + 1, h, k, hk => by
    simp only [allIn, Bool.and_eq_true] at h
    by_cases e : k = n
    · subst e; exact h.1
    · exact allIn_spec h.2 k (by omega)
theorem noSel_spec : ∀ {l : List Oper}, noSel l = true → ∀ (j : Nat) (o : Oper) cs b, l[j]? = some o → o.op ≠ .select cs b
  | [], _, j, o, cs, b, hj => by simp at hj
  | q :: l, h, j, o, cs, b, hj => by
    simp only [noSel, Bool.and_eq_true] at h
    cases j with
    | zero =>
      simp only [List.getElem?_cons_zero, Option.some.injEq] at hj
      subst hj
      intro e
      rw [e] at h
      exact absurd h.1 (by simp)
    | succ j => exact noSel_spec h.2 j o cs b (by simpa using hj)

section
variable {P : Program} {b : Frame} {base : List Frame} {n : Nat} {ops : Array Oper} {rc : RC}

theorem dput_put {σ : Sig} {F F' : Fr} {D : Dl} {H : Heap} {a : Act} {w : World} {dst : Option Tmp} {v : Value} (hF : Fine P b base σ n F D H rc a w) (hd : dput n F dst v = some F') (hv : Stab H.next v) :
    Fine P b base σ n F' D H rc (a.put dst (ren σ v)) w := by
  unfold dput at hd
  cases dst with
  | none => cases hd; exact hF
  | some d =>
    simp only at hd
    split at hd
    · cases hd
    · rename_i hb
      cases hd
      exact hF.put (by rcases Nat.lt_or_ge d n with h | h; exact h; rw [Nat.ble_eq_true_of_le h] at hb; cases hb) hv

/-- What looks at the frame alone. -/
theorem ch_flo {σ : Sig} {F : Fr} {D : Dl} {H H' : Heap} {a : Act} {w : World} {o : Oper} {v : Value} (hF : Fine P b base σ n F D H rc a w) (hb : bare o = true) (hp : floP o = true) (h : chOp P F H o = some (v, H')) :
    ∃ σ', Yields P ops o (ren σ' v) a ∧ Rep P σ' H' w ∧ Stp σ H w σ' H' w ∧ Stab H'.next v := by
  have hw : Region.wanted o (yielded ops a.tmps) = true := guard_spec hF (by
    unfold bare at hb
    unfold guardB
    cases hg : o.guard with
    | none => rfl
    | some p => rw [hg] at hb; cases hb)
  unfold floP at hp
  unfold chOp at h
  split at hp
  · rename_i hc
    rw [hc] at h
    simp only at h
    split at h
    · rename_i u hu
      simp only [Option.some.injEq, Prod.mk.injEq] at h
      obtain ⟨rfl, rfl⟩ := h
      exact ⟨σ, .inl ⟨hw, is_pure hF.ev hu⟩, hF.rep, Stp.refl _ _ _, stab_pure hF.evst hu⟩
    · cases h
  · cases hop : o.op with
    | slice t x lo hi mx =>
      have hc : clOf o.op = .read := by rw [hop]; rfl
      rw [hc] at h
      simp only at h
      unfold xheap at h
      rw [hop] at h
      simp only at h
      unfold xhSlice at h
      split at h
      · rename_i x' l hh m ha hl hh' hm
        have hρ := hF.ev
        obtain ⟨σ1, w1, h1, h2, h3, h4⟩ := does_slice hF.rep h (hF.evst _ _ ha)
        have hwi := WI.sliceAt (P := P) t (ren σ x') (l.map (ren σ)) (hh.map (ren σ)) (m.map (ren σ))
        rcases hwi with ⟨y, hy⟩ | hy
        · have := hy w
          rw [h1] at this
          simp only [Result.ok.injEq] at this
          obtain ⟨e1, e2⟩ := this
          subst e2
          refine ⟨σ1, .inl ⟨hw, fun w2 => ?_⟩, h2, h3, h4⟩
          unfold execOp
          rw [hop]
          simp only
          rw [hρ _ _ ha, xoptv_ren hρ hl, xoptv_ren hρ hh', xoptv_ren hρ hm, Sem.run_bind, hy w2, ← e1]
          rfl
        · exact absurd h1 (hy _ _ _)
      · cases h
    | _ => rw [hop] at hp; cases hp

theorem chain_any (hsel : noSel ops.toList = true) {Q : Exit → Act → World → Prop} {F' : Fr} {H' : Heap} {D : Dl} {σ0 : Sig} {H0 : Heap} {w0 : World}
    (hQ : ∀ σ' a w, Fine P b base σ' n F' D H' rc a w → Stp σ0 H0 w0 σ' H' w → Q .normal a w) (hQn : ∀ c a w, ¬ Q (.panic c) a w) :
    ∀ (L done : List Nat) (listed : Array Bool) (F : Fr) (H : Heap) (σ : Sig) (a : Act) (w : World), listed.size = ops.size → (∀ j, memN j done = true → j < ops.size) → (∀ j, j < ops.size → listed.getD j false = memN j done) →
      (∀ j, j < ops.size → memN j done = true ∨ memN j L = true) → chGood ops done L = true → chOps P n ops L F H = some (F', H') → Fine P b base σ n F D H rc a w → Stp σ0 H0 w0 σ H w → wpAny P .any ops Q L.length listed a w := by
  have getT : ∀ {listed : Array Bool} {j : Nat}, listed.size = ops.size → j < ops.size → listed.getD j true = listed.getD j false := fun {listed j} hs hj => by
    have : j < listed.size := by omega
    simp [this]
  intro L
  induction L with
  | nil =>
    intro done listed F H σ a w hsz hdn hl hall hg hc hF hS
    simp only [chOps, Option.some.injEq, Prod.mk.injEq] at hc
    obtain ⟨rfl, rfl⟩ := hc
    refine wpAny_done ?_ (hQ _ _ _ hF hS) _
    cases hr : Region.ready .any ops listed with
    | nil => rfl
    | cons x l =>
      have hx : x ∈ Region.ready .any ops listed := by rw [hr]; exact .head _
      obtain ⟨h1, o, ho, _⟩ := mem_ready.1 hx
      have hlt : x < ops.size := (Array.getElem?_eq_some_iff.1 ho).1
      rw [getT hsz hlt, hl x hlt] at h1
      rcases hall x hlt with h | h
      · rw [h] at h1; cases h1
      · cases h
  | cons i L ih =>
    intro done listed F H σ a w hsz hdn hl hall hg hc hF hS
    simp only [chGood, Bool.and_eq_true] at hg
    obtain ⟨ht, hg⟩ := hg
    unfold chTake at ht
    simp only [chOps] at hc
    cases ho : nth i ops.toList with
    | none => rw [ho] at ht; cases ht
    | some o =>
      rw [ho] at ht hc
      simp only [Bool.and_eq_true, Bool.not_eq_true'] at ht hc
      obtain ⟨⟨⟨t1, t2⟩, t3⟩, t4⟩ := ht
      rw [nth_eq, Array.getElem?_toList] at ho
      have hlt : i < ops.size := (Array.getElem?_eq_some_iff.1 ho).1
      split at hc
      · rename_i v H1 hch
        split at hc
        · rename_i F1 hF1
          have hready : i ∈ Region.ready .any ops listed := mem_ready.2 ⟨by rw [getT hsz hlt, hl i hlt]; exact t1, o, ho, fun e he hb => by
            have := readyL_spec.1 t2 e (by simpa using he) hb
            rw [hl _ (hdn _ this)]; exact this⟩
          have hdn' : ∀ j, memN j (i :: done) = true → j < ops.size := fun j hj => by
            rcases List.mem_cons.1 (memN_iff.1 hj) with rfl | h
            · exact hlt
            · exact hdn j (memN_iff.2 h)
          have hsz' : (listed.setIfInBounds i true).size = ops.size := by simp [hsz]
          have hl' : ∀ j, j < ops.size → (listed.setIfInBounds i true).getD j false = memN j (i :: done) := fun j hj => by
            by_cases e : i = j
            · subst e
              have : i < listed.size := by omega
              simp [this, memN, Nat.beq_refl]
            · rw [getD_set_ne false e, hl j hj]
              simp only [memN]
              cases hb : Nat.beq j i with
              | true => exact absurd (Nat.eq_of_beq_eq_true hb).symm e
              | false => rfl
          have hall' : ∀ j, j < ops.size → memN j (i :: done) = true ∨ memN j L = true := fun j hj => by
            rcases hall j hj with h | h
            · left; exact memN_iff.2 (.tail _ (memN_iff.1 h))
            · rcases List.mem_cons.1 (memN_iff.1 h) with rfl | h
              · left; exact memN_iff.2 (.head _)
              · right; exact memN_iff.2 h
          cases hfl : floP o with
          | true =>
            rw [hfl] at t4
            obtain ⟨σ1, hy, hR1, hS1, hst⟩ := ch_flo (ops := ops) hF t3 hfl hch
            refine wpAny_first ho (fun j oj cs bb hj => noSel_spec hsel j oj cs bb (by simpa using hj)) (fun c a w h => absurd h (hQn _ _ _)) L.length listed a w (fun j oj hj hji hun hno => ?_) hready hy (ih (i :: done) _ F1 H1 σ1 _ _ hsz' hdn' hl' hall' hg hc (dput_put (hF.moved hS1 hR1) hF1 hst) (hS.trans hS1))
            have hjl : j < ops.size := (Array.getElem?_eq_some_iff.1 hj).1
            refine apartB_spec (freeB_spec t4 j oj (by simpa using hj) (by omega) ?_ ?_)
            · rw [Nat.zero_add, ← hl j hjl, ← getT hsz hjl]; exact hun
            · cases hwf : waitsFor i oj.after.toList with
              | false => rfl
              | true =>
                obtain ⟨e, he, hb, hon⟩ := waitsFor_spec hwf
                exact absurd hon (hno e (by simpa using he) hb)
          | false =>
            rw [hfl] at t4
            simp only [Bool.and_eq_true] at t4
            refine ⟨fun h0 => by rw [h0] at hready; (cases hready), fun j hj => ?_⟩
            obtain ⟨hun, oj, hoj, haf⟩ := mem_ready.1 hj
            have hjl : j < ops.size := (Array.getElem?_eq_some_iff.1 hoj).1
            have hji : 0 + j = i := onlyB_spec t4.2 j oj (by simpa using hoj) (by rw [Nat.zero_add, ← hl j hjl, ← getT hsz hjl]; exact hun) (readyL_spec.2 fun e he hb => by
              have := haf e (by simpa using he) hb
              have hel : e.on < ops.size := by
                rcases Nat.lt_or_ge e.on listed.size with h | h
                · omega
                · simp [Array.getElem?_eq_none h] at this
              rw [← hl _ hel]; exact this)
            rw [Nat.zero_add] at hji
            subst hji
            rw [ho] at hoj
            cases hoj
            have hw : Region.wanted o (yielded ops a.tmps) = true := guard_spec hF (by
              unfold bare at t3
              unfold guardB
              cases hg : o.guard with
              | none => rfl
              | some p => rw [hg] at t3; cases t3)
            have hx : xheap P (F.ev P) H o = some (v, H1) := by
              unfold chOp at hch
              split at hch
              · rename_i hcl; unfold heapP at t4; rw [hcl] at t4; exact absurd t4.1 (by simp)
              · exact hch
            obtain ⟨σ1, w1, res, hrun, hres, hR1, hS1, hst⟩ := does_heap hF.ev hF.evst hF.rep hx
            unfold wpOp
            simp only [ho, hw, if_true]
            left
            unfold Oper.wp
            rw [hrun]
            have fin := ih (j :: done) (listed.setIfInBounds j true) F1 H1 σ1 (a.put o.dst (ren σ1 v)) w1 hsz' hdn' hl' hall' hg hc (dput_put (hF.moved hS1 hR1) hF1 hst) (hS.trans hS1)
            rcases hres with rfl | ⟨rfl, rfl⟩
            · exact fin
            · rw [show ren σ1 undef = undef from ren_clo _ _ rfl] at fin
              exact fin
        · cases hc
      · cases hc
end
end
end Go.Proofs.YtibeinbfhhoeiaaGreatDoor.Ab

namespace Go.Proofs.YtibeinbfhhoeiaaGreatDoor.Ab
open Go Go.Conc
noncomputable section

section
variable {P : Program} {r : Rec} {n : Nat} {ops : Array Oper} {F0 : Fr} {H0 : Heap} {T : Nat → DS} {m : Nat → Nat} {val : Nat → Value} {a0 a : Act} {σ0 σ : Sig} {w0 w : World} {c : Nat} {S S' : Nat → Bool}

/-- All is done. -/
theorem Inv.done (t : Trace P r n ops F0 H0 T m val) (h : Inv n ops F0 H0 T m val P a0 σ0 w0 c S σ a w) (hF0 : ∀ d v, F0.get d = some v → Stab H0.next v) (hall : ∀ i, i < ops.size → S i = true)
    {b : Frame} {base : List Frame} {D : Dl} {rc : RC} (hf : Fine P b base σ0 n F0 D H0 rc a0 w0) :
    Fine P b base σ n (T ops.size).F D ⟨viewT (T ops.size).H.t (T ops.size).H.next (fun _ => true) (T ops.size).As, (T ops.size).next⟩ rc a w ∧
    Stp σ0 H0 w0 σ ⟨viewT (T ops.size).H.t (T ops.size).H.next (fun _ => true) (T ops.size).As, (T ops.size).next⟩ w := by
  have hHc : (T ops.size).H = (T c).H := t.H_const h.cN (Nat.le_refl _) fun k h1 h2 h3 => by
    have := (h.eff k h2 h3).1 (hall k h2); omega
  have hV : VH ops T c S = ⟨viewT (T ops.size).H.t (T ops.size).H.next (fun _ => true) (T ops.size).As, (T ops.size).next⟩ := by
    unfold VH
    rw [hHc, viewT_congr (p := S) (q := fun _ => true) fun A hA => hall A.ix ((t.As_mem (Nat.le_refl _) A).1 hA).1]
  have hcn := h.cn t
  have hcN := t.next_mono h.cN (Nat.le_refl _)
  rw [← hV]
  refine ⟨?_, h.stp⟩
  have hH0 : H0.next ≤ (T ops.size).next := h.stp.nxt
  exact {
    size := h.size
    get := fun d v hv => by
      rcases t.frame (Nat.le_refl _) d v hv with ⟨j, oj, hj, hoj, hdj, rfl⟩ | ⟨hno, hF⟩
      · exact h.vals σ (Known.refl σ) j oj d hoj (hall j hj) hdj
      · exact h.rest σ (Known.refl σ) d v hF fun k ok hok hk => hno k ok (h.bnd k hk) hok
    fst := fun d v hv => by
      rcases t.frame (Nat.le_refl _) d v hv with ⟨j, oj, hj, hoj, hdj, rfl⟩ | ⟨hno, hF⟩
      · refine (h.stab j (hall j hj)).mono ?_
        have := t.next_mono (i := j + 1) (j := ops.size) (by omega) (Nat.le_refl _)
        show max (T (j + 1)).next (T c).H.next ≤ (T ops.size).next
        omega
      · exact (hF0 d v hF).mono hH0
    defs := by rw [h.defs]; exact hf.defs.move h.stp.ext hf.dst
    dst := fun x hx v hv => (hf.dst x hx v hv).mono hH0
    rep := h.rep σ (Known.refl σ)
    rcs := hf.rcs.mono hH0
    kind := hf.kind
    rck := hf.rck }

/-- The start. -/
theorem Inv.start (t : Trace P r n ops F0 H0 T m val) {b : Frame} {base : List Frame} {D : Dl} {rc : RC} (hf : Fine P b base σ0 n F0 D H0 rc a0 w0) :
    Inv n ops F0 H0 T m val P a0 σ0 w0 0 (fun _ => false) σ0 a0 w0 := by
  have hT0 : (T 0).H = H0 := by rw [t.start]
  have hnx := t.next_mono (i := 0) (j := ops.size) (by omega) (Nat.le_refl _)
  rw [t.start] at hnx
  simp only at hnx
  have hVg : ∀ id o, (VH ops T 0 (fun _ => false)).get id = some o → H0.get id = some o := by
    intro id o hid
    rcases viewT_inv hid with ⟨A, _, _, hp, _⟩ | h1
    · cases hp
    · rw [hT0] at h1; exact h1
  have hrep : Rep P σ0 (VH ops T 0 (fun _ => false)) w0 := hf.rep.sub (Nat.le_trans hf.rep.glob.1 hnx) fun id o hid => by
    have h1 := hVg id o hid
    exact ⟨h1, Nat.lt_of_lt_of_le (hf.rep.lt id o h1) hnx, (hf.rep.stab id o h1).mono hnx⟩
  exact {
    gl := hf.rep.glob.1
    cN := Nat.zero_le _
    cE := .inl rfl
    eff := fun i _ _ => by simp
    down := fun i o _ h => by cases h
    bnd := fun i h => by cases h
    made := fun A _ h => by omega
    size := hf.size
    defs := rfl
    vals := fun τ _ i o d _ h => by cases h
    rest := fun τ hτ d v hF _ => by
      rw [hf.get d v hF]
      congr 1
      exact (hf.fst d v hF).ren_eq fun i hi => (hτ.1 i (by rw [hT0]; exact hi)).symm
    stab := fun i h => by cases h
    base := fun id o hid => by rw [hT0] at hid ⊢; exact ⟨hf.rep.lt id o hid, hf.rep.stab id o hid⟩
    own := fun A _ h => by cases h
    rep := fun τ hτ => by
      refine (hf.rep.sig (σ' := τ) fun i hi => (hτ.1 i (by rw [hT0]; exact hi)).symm).sub (Nat.le_trans hf.rep.glob.1 hnx) fun id o hid => ?_
      have h1 := hVg id o hid
      exact ⟨h1, Nat.lt_of_lt_of_le (hf.rep.lt id o h1) hnx, (hf.rep.stab id o h1).mono hnx⟩
    stp := {
      ext := fun _ _ => rfl
      nxt := hnx
      os := rfl
      tape := rfl
      output := rfl
      size := Nat.le_refl _
      frame := fun _ _ _ => rfl
      foot := fun i o hi ho => .inl ⟨i, o, hVg i o hi, ho, rfl⟩
      lv := fun i o hi ho => .inl ⟨i, o, hVg i o hi, ho, rfl⟩ } }

theorem count_set (l : List Bool) : ∀ i, l[i]? = some false → (l.set i true).count false + 1 = l.count false := by
  induction l with
  | nil => intro i h; simp at h
  | cons x l ih =>
    intro i h
    cases i with
    | zero => simp only [List.getElem?_cons_zero, Option.some.injEq] at h; subst h; simp
    | succ i =>
      simp only [List.getElem?_cons_succ] at h
      have := ih i h
      simp only [List.set_cons_succ, List.count_cons]
      omega

theorem getD_true {listed : Array Bool} {i : Nat} (h : listed.getD i true = false) : listed.toList[i]? = some false ∧ listed.getD i false = false := by
  rcases Nat.lt_or_ge i listed.size with hlt | hge
  · simp [hlt] at h
    exact ⟨by simp [hlt, h], by simp [hlt, h]⟩
  · simp [Array.getElem?_eq_none hge] at h

theorem Inv.any (t : Trace P r n ops F0 H0 T m val) (hc : SoundCall P r) (hord : orderly ops = true) (hF0 : ∀ d v, F0.get d = some v → Stab H0.next v) {Q : Exit → Act → World → Prop}
    (hQ : ∀ c S σ a w, Inv n ops F0 H0 T m val P a0 σ0 w0 c S σ a w → (∀ i, i < ops.size → S i = true) → Q .normal a w) :
    ∀ (fuel : Nat) (listed : Array Bool) c σ a w, listed.size = ops.size → listed.toList.count false = fuel → Inv n ops F0 H0 T m val P a0 σ0 w0 c (fun i => listed.getD i false) σ a w →
      wpAny P .any ops Q fuel listed a w := by
  intro fuel
  -- nothing is ready: all is done
  have hall : ∀ listed : Array Bool, listed.size = ops.size → Region.ready .any ops listed = [] → ∀ i, i < ops.size → listed.getD i false = true := by
    intro listed hsz hno i
    induction i using Nat.strongRecOn with
    | ind i ih =>
      intro hi
      obtain ⟨o, ho⟩ := lt_get hi
      cases hl : listed.getD i false with
      | true => rfl
      | false =>
        have hmem : i ∈ Region.ready .any ops listed := by
          rw [mem_ready]
          have hlt : i < listed.size := by omega
          have hl' : listed.getD i true = false := by simp [hlt] at hl ⊢; exact hl
          refine ⟨hl', o, ho, fun e he hb => ?_⟩
          obtain ⟨_, _, hear, _⟩ := orderly_spec hord ho
          have := hear e (by simpa using he) hb
          exact ih e.on this (by omega)
        rw [hno] at hmem
        cases hmem
  induction fuel with
  | zero =>
    intro listed c σ a w hsz hcnt h
    have hno : Region.ready .any ops listed = [] := by
      cases hr : Region.ready .any ops listed with
      | nil => rfl
      | cons x l =>
        have hx : x ∈ Region.ready .any ops listed := by rw [hr]; exact .head _
        obtain ⟨h1, _⟩ := mem_ready.1 hx
        obtain ⟨h2, _⟩ := getD_true h1
        have := List.count_pos_iff.2 (List.mem_of_getElem? h2)
        omega
    exact ⟨hno, hQ _ _ _ _ _ h (hall listed hsz hno)⟩
  | succ fuel ih =>
    intro listed c σ a w hsz hcnt h
    refine ⟨fun hno => hQ _ _ _ _ _ h (hall listed hsz hno), fun i hi => ?_⟩
    obtain ⟨h1, o, ho, haf⟩ := mem_ready.1 hi
    obtain ⟨h2, h3⟩ := getD_true h1
    have hlt : i < listed.size := by
      have := (List.getElem?_eq_some_iff.1 h2).1
      simpa using this
    have hr : Ready ops m (fun k => listed.getD k false) (fun k => (listed.setIfInBounds i true).getD k false) i o := {
      ho := ho
      un := h3
      ms := fun j hb => by
        obtain ⟨e, he, hbd, hor⟩ := befores_bit ho (t.mask i o ho) hb
        have hel := haf e (by simpa using he) hbd
        rcases hor with rfl | ⟨me, hme, hb'⟩
        · exact hel
        · obtain ⟨oe, hoe⟩ := lt_get (h.bnd e.on hel)
          have := t.mask e.on oe hoe
          rw [hme] at this
          cases this
          exact h.down e.on oe hoe hel j hb'
      new := by simp [hlt]
      old := fun k hk => by simp only [getD_set_ne false (Ne.symm hk)] }
    refine h.step t hc hord hF0 hr (Q := Q) fun c' σ' a' w' hI => ?_
    refine ih (listed.setIfInBounds i true) c' σ' a' w' (by simp [hsz]) ?_ hI
    have := count_set listed.toList i h2
    rw [Array.toList_setIfInBounds]
    omega

theorem sound_draw {r : Rec} (hc : SoundCall P r) : SoundDraw P r := by
  intro n id ops F D H rc b base k σ a w hF
  unfold stepDraw
  split
  · rename_i hm hord
    split
    · rename_i L hL
      split
      · rename_i F' H' hch
        unfold chainOf at hL
        split at hL
        · cases hL
        · generalize chFind ops ops.toList.length [] = L' at hL
          unfold chainIf at hL
          split at hL
          · rename_i hgood
            simp only [Option.some.injEq] at hL
            subst hL
            simp only [Bool.and_eq_true] at hgood
            obtain ⟨⟨⟨g1, g2⟩, g3⟩, g4⟩ := hgood
            have g3 := Nat.eq_of_beq_eq_true g3
            have hF' : Fine P b base σ n F D H rc a { w with drawn := w.drawn + 1 } := hF.moved Stp.drew hF.rep.drew
            let Q : Exit → Act → World → Prop := fun e a' w' => e = .normal ∧ ∃ σ', Fine P b base σ' n F' D H' rc a' w' ∧ Stp σ H { w with drawn := w.drawn + 1 } σ' H' w'
            have hwp : (Code.region id ops true).wp P Q a w := by
              refine wp_region_any hm ?_
              have hsz : L'.length = ops.size := by rw [g3]; simp
              rw [← hsz]
              exact chain_any (Q := Q) (H0 := H) (σ0 := σ) (w0 := { w with drawn := w.drawn + 1 }) g4 (fun σ' a w h1 h2 => ⟨rfl, σ', h1, h2⟩) (fun c a w h => by cases h.1) L' [] _ F H σ a _ (by rw [hsz]; simp) (fun j h => by cases h) (fun j hj => by simp [memN, hsz, hj]) (fun j hj => .inr (allIn_spec g2 j (by simpa using hj))) g1 hch hF' (Stp.refl _ _ _)
            obtain ⟨e, a', w', ⟨rfl, σ', hfin, hS⟩, harr⟩ := hwp b k (csOf σ base rc)
            have hS' : Stp σ H w σ' H' w' := Stp.drew.trans hS
            refine ⟨σ', a', w', hfin, hS', ?_⟩
            rw [← csOf_move hF.rcs hS'.ext]
            exact harr
          · cases hL
      · trivial
    · split
      · rename_i s hs
        obtain ⟨T, m, val, t, hT⟩ := trace_of hs
        have hF' : Fine P b base σ n F D H rc a { w with drawn := w.drawn + 1 } := hF.moved Stp.drew hF.rep.drew
        have hF0 : ∀ d v, F.get d = some v → Stab H.next v := hF.fst
        let Q : Exit → Act → World → Prop := fun e a' w' => e = .normal ∧ ∃ σ', Fine P b base σ' n s.F D ⟨viewT s.H.t s.H.next (fun _ => true) s.As, s.next⟩ rc a' w' ∧
          Stp σ H { w with drawn := w.drawn + 1 } σ' ⟨viewT s.H.t s.H.next (fun _ => true) s.As, s.next⟩ w'
        have hwp : (Code.region id ops true).wp P Q a w := by
          refine wp_region_any hm ?_
          refine Inv.any t hc hord hF0 (a0 := a) (σ0 := σ) (w0 := { w with drawn := w.drawn + 1 }) (fun c S σ' a' w' h hall => ?_) ops.size _ 0 σ a _ (by simp) (by simp) ?_
          · have := h.done t hF0 hall hF'
            rw [hT] at this
            exact ⟨rfl, σ', this⟩
          · have := Inv.start t hF'
            have e : (fun i => (Array.replicate ops.size false).getD i false) = fun _ => false := by
              funext i
              rcases Nat.lt_or_ge i ops.size with h | h
              · simp [h]
              · simp [h]
            rw [e]
            exact this
        obtain ⟨e, a', w', ⟨rfl, σ', hfin, hS⟩, harr⟩ := hwp b k (csOf σ base rc)
        have hS' : Stp σ H w σ' ⟨viewT s.H.t s.H.next (fun _ => true) s.As, s.next⟩ w' := Stp.drew.trans hS
        refine ⟨σ', a', w', hfin, hS', ?_⟩
        rw [← csOf_move hF.rcs hS'.ext]
        exact harr
      · trivial
  · trivial

/-- THE INTERPRETER IS SOUND. -/
theorem run_sound {hk : FuncId → Option (List Value → Heap → AEnd)} (hhk : HkOk P hk) (n : Nat) : Sound P (run P hk n) := sound_run (fun _ hc => sound_draw hc) hhk n

theorem hkOk_none : HkOk P fun _ => none := fun _ _ _ _ h => by cases h

/-- A call that the interpreter brings to an end, in the machine. -/
theorem calls_run {hk : FuncId → Option (List Value → Heap → AEnd)} (hhk : HkOk P hk) {k : Nat} {f : FuncId} {args : List Value} {H : Heap} {x : AEnd} (h : (run P hk k).call f args H = x) (hx : x ≠ .none)
    {σ : Sig} {w : World} (hR : Rep P σ H w) (hst : ∀ v ∈ args, Stab H.next v) : Calls P f ⟨args.map (ren σ)⟩ w (EndPost P σ H w x) := by
  subst h
  exact ((run_sound hhk k).call f args H hx).2 σ w hR hst
end
end
end Go.Proofs.YtibeinbfhhoeiaaGreatDoor.Ab

namespace Go.Proofs.YtibeinbfhhoeiaaGreatDoor.Ab
open Go Go.Conc
noncomputable section

section
variable {P : Program}

def retIs (p : Value → Bool) : AEnd → Bool
  | .ret v _ => p v
  | _ => false

theorem retIs_spec {p : Value → Bool} {x : AEnd} (h : retIs p x = true) : ∃ v H', x = .ret v H' ∧ p v = true := by
  cases x with
  | ret v H' => exact ⟨v, H', rfl, h⟩
  | none => cases h
  | panic v H' => cases h

def isTrue : Value → Bool
  | .bool b => b
  | _ => false
theorem isTrue_spec {v : Value} (h : isTrue v = true) : v = .bool true := by
  cases v <;> first | (simp only [isTrue] at h; rw [h]) | cases h

/-- The world stands, but for what is new. -/
theorem stands {σ : Sig} {H : Heap} {w w' : World} (hR : Rep P σ H w) {σ1 : Sig} {H1 : Heap} (hS : Stp σ ⟨.lf, P.globals.size⟩ w σ1 H1 w') : Rep P σ H w' ∧ Stp σ H w σ H w' := by
  have hk : ∀ b, b < w.heap.size → w'.heap[b]? = w.heap[b]? := fun b hb => hS.frame b hb fun i o hi => by cases hi
  refine ⟨hR.keep fun id o ho hl => hk _ ((hR.obj id o ho).lt_size hl), ?_⟩
  exact {
    ext := fun _ _ => rfl
    nxt := Nat.le_refl _
    os := hS.os
    tape := hS.tape
    output := hS.output
    size := hS.size
    frame := fun b hb _ => hk b hb
    foot := fun i o hi ho => .inl ⟨i, o, hi, ho, rfl⟩
    lv := fun i o hi ho => .inl ⟨i, o, hi, ho, rfl⟩ }

theorem calls_closed {hk : FuncId → Option (List Value → Heap → AEnd)} (hhk : HkOk P hk) {k : Nat} {f : FuncId} {args : List Value} {v : Value} {H1 : Heap}
    (h : (run P hk k).call f args ⟨.lf, P.globals.size⟩ = .ret v H1) (ha : ∀ u ∈ args, clo u = true) (hv : clo v = true) :
    (enters P f).isSome ∧ ∀ {σ : Sig} {H : Heap} {w : World}, Rep P σ H w → Calls P f ⟨args.map (ren σ)⟩ w (EndPost P σ H w (.ret v H)) := by
  have hs := (run_sound hhk k).call f args ⟨.lf, P.globals.size⟩ (by rw [h]; simp)
  refine ⟨hs.1, fun {σ H w} hR => ?_⟩
  have := hs.2 σ w (rep_empty P σ _ w ⟨Nat.le_refl _, hR.glob.2⟩) fun u hu => .clo (ha u hu)
  rw [h] at this
  refine this.mono fun e w' he => ?_
  obtain ⟨σ1, rfl, _, hS, _⟩ := he
  obtain ⟨h1, h2⟩ := stands hR hS
  exact ⟨σ, by rw [ren_clo _ v hv, ren_clo _ v hv], h1, h2, .clo hv⟩

/-- .. as a hook. -/
def hookTrue (f : FuncId) (hk : FuncId → Option (List Value → Heap → AEnd)) : FuncId → Option (List Value → Heap → AEnd) := fun g => match Nat.beq g f with
  | true => some fun args H => match args with
    | [] => .ret (.bool true) H
    | _ => .none
  | false => hk g

theorem hookTrue_ok {hk hk' : FuncId → Option (List Value → Heap → AEnd)} (hhk : HkOk P hk) (hhk' : HkOk P hk') {k : Nat} {f : FuncId}
    (h : retIs isTrue ((run P hk' k).call f [] ⟨.lf, P.globals.size⟩) = true) : HkOk P (hookTrue f hk) := by
  obtain ⟨v, H1, hr, hv⟩ := retIs_spec h
  have hv := isTrue_spec hv
  subst hv
  obtain ⟨h1, h2⟩ := calls_closed hhk' hr (by simp) rfl
  intro g fn args H hg hne
  unfold hookTrue at hg
  split at hg
  · rename_i hb
    have hb := Nat.eq_of_beq_eq_true hb
    subst hb
    simp only [Option.some.injEq] at hg
    subst hg
    cases args with
    | nil => exact ⟨h1, fun σ w hR _ => h2 hR⟩
    | cons a l => exact absurd rfl hne
  · exact hhk g fn args H hg hne
end
end
end Go.Proofs.YtibeinbfhhoeiaaGreatDoor.Ab

namespace Go.Proofs.YtibeinbfhhoeiaaGreatDoor.Ab
open Go Go.Sort
noncomputable section

section
variable {P : Program}

theorem grow_at {w : World} {os : Array Obj} {b : Nat} (h : b < w.heap.size) : (Sort.grow w os).heap[b]? = w.heap[b]? := by
  unfold Sort.grow
  simp only
  rw [Array.getElem?_append_left h]
theorem Rep.grown {σ : Sig} {H : Heap} {w : World} (h : Rep P σ H w) (os : Array Obj) : Rep P σ H (Sort.grow w os) ∧ Stp σ H w σ H (Sort.grow w os) :=
  ⟨h.keep fun id o ho hl => grow_at ((h.obj id o ho).lt_size hl), {
    ext := fun _ _ => rfl
    nxt := Nat.le_refl _
    os := rfl
    tape := rfl
    output := rfl
    size := by unfold Sort.grow; simp
    frame := fun b hb _ => grow_at hb
    foot := fun i o hi ho => .inl ⟨i, o, hi, ho, rfl⟩
    lv := fun i o hi ho => .inl ⟨i, o, hi, ho, rfl⟩ }⟩
theorem Rep.ahead {σ : Sig} {H : Heap} {w : World} (h : Rep P σ H w) (n : Nat) : Rep P σ H (Sort.ahead w n) ∧ Stp σ H w σ H (Sort.ahead w n) :=
  ⟨h.of_heap rfl, ⟨fun _ _ => rfl, Nat.le_refl _, rfl, rfl, rfl, Nat.le_refl _, fun _ _ _ => rfl, fun i o h ho => .inl ⟨i, o, h, ho, rfl⟩, fun i o h ho => .inl ⟨i, o, h, ho, rfl⟩⟩⟩

def intV (l : List Int) : List Value := l.map (Value.int .i64)
/-- What a row of numbers holds, in the world. -/
theorem holds_ints {σ : Sig} {H : Heap} {w : World} (h : Rep P σ H w) {id : Nat} {t : TypeId} {l : List Int} (ho : H.get id = some (.row (intV l) t .opn)) :
    (σ id).blk < w.heap.size ∧ Holds (Value.int .i64) w (σ id).blk (σ id).off l.toArray ∧ l.length ≤ (σ id).cap * elSize P t := by
  have hlt := (h.obj id _ ho).lt_size rfl
  rcases h.obj id _ ho with h | ⟨c, fr, h1, h2, h3, h4, h5, h6⟩
  · cases h
  have h4 := h4 (by simp)
  subst h4
  refine ⟨hlt, fun j hj => ?_, by have := (h5 rfl).1; simpa [intV] using this⟩
  have hj : j < l.length := by simpa using hj
  have hc := h3 j (.int .i64 l[j]) (by simp [intV, hj])
  constructor
  · unfold World.cell?
    simp only [h1]
    rw [hc]
    simp [hj, ren]
  · unfold World.frozen?
    simp [h1]
theorem hook_ints {σ : Sig} {H : Heap} {w : World} (h : Rep P σ H w) {id : Nat} {t : TypeId} {l l' : List Int} (ho : H.get id = some (.row (intV l) t .opn)) (hl : l'.length = l.length) (n : Nat) (os : Array Obj) :
    Rep P σ (H.set id (.row (intV l') t .opn)) (Sort.grow (putRow (Value.int .i64) (Sort.ahead w n) (σ id).blk (σ id).off l'.toArray) os) ∧
      Stp σ H w σ (H.set id (.row (intV l') t .opn)) (Sort.grow (putRow (Value.int .i64) (Sort.ahead w n) (σ id).blk (σ id).off l'.toArray) os) := by
  obtain ⟨r1, s1⟩ := h.ahead n
  have key : Rep P σ (H.set id (.row (intV l') t .opn)) (putRow (Value.int .i64) (Sort.ahead w n) (σ id).blk (σ id).off l'.toArray) ∧ Stp σ H (Sort.ahead w n) σ (H.set id (.row (intV l') t .opn)) (putRow (Value.int .i64) (Sort.ahead w n) (σ id).blk (σ id).off l'.toArray) := by
    rcases r1.obj id _ ho with h | ⟨c, fr, h1, h2, h3, h4, h5, h6⟩
    · cases h
    refine r1.write ho rfl rfl ?_ ?_ ?_ rfl rfl rfl ?_
    · intro v hv
      obtain ⟨x, _, rfl⟩ := List.mem_map.1 hv
      exact .clo rfl
    · intro b hb
      unfold putRow mapBlock
      simp only [Array.getElem?_modify]
      rw [if_neg (Ne.symm hb)]
    · unfold putRow mapBlock
      simp
    · have hlen : (intV l').length = (intV l).length := by simp [intV, hl]
      refine .inr ⟨putCells (Value.int .i64) (σ id).off l'.toArray c, fr, ?_, ?_, ?_, h4, ?_, (fun hg => by rw [hlen]; simpa [putCells] using h6.1 hg), fun hk => by cases hk⟩
      · unfold putRow mapBlock
        simp only [Array.getElem?_modify, if_true, h1, Option.map_some, onCells]
      · rw [hlen]; simpa [putCells] using h2
      · intro j v hv
        obtain ⟨hj, e⟩ := List.getElem?_eq_some_iff.1 hv
        have hj' : j < l'.length := by simpa [intV] using hj
        have hsz : (σ id).off + j < c.size := by rw [← hlen] at h2; omega
        simp only [intV, List.getElem_map] at e
        subst e
        unfold putCells
        rw [Array.getElem?_mapIdx, Array.getElem?_eq_getElem hsz]
        simp [hj', ren]
      · intro hk
        have := h5 hk
        rw [hlen]
        simpa [putCells] using this
  obtain ⟨r2, s2⟩ := key
  obtain ⟨r3, s3⟩ := r2.grown os
  exact ⟨r3, s1.trans (s2.trans s3)⟩
end
end
end Go.Proofs.YtibeinbfhhoeiaaGreatDoor.Ab

namespace Go.Proofs.YtibeinbfhhoeiaaGreatDoor.Ab
open Go
noncomputable section

section
variable {P : Program}
/-- Nothing is owned. -/
def NoOwn (H : Heap) : Prop := ∀ id o, H.get id = some o → o.own = false

/-- A part of a row more, that is only read. -/
theorem Rep.addRo {σ : Sig} {H : Heap} {w : World} (h : Rep P σ H w) (hno : NoOwn H) {vs : List Value} {elem : TypeId} {c : Array Value} {fr : Nat × Nat} {p : Place} (hb : w.heap[p.blk]? = some (.cells c elem fr)) (hle : p.off + vs.length ≤ c.size)
    (hv : ∀ (j : Nat) v, vs[j]? = some v → c[p.off + j]? = some (ren (upd σ H.next p) v)) (hs : ∀ v ∈ vs, Stab (H.next + 1) v) :
    Rep P (upd σ H.next p) (H.alloc (.row vs elem .ro)) w ∧ NoOwn (H.alloc (.row vs elem .ro)) := by
  have hinv : ∀ id o', (H.alloc (.row vs elem .ro)).get id = some o' → (id = H.next ∧ o' = .row vs elem .ro) ∨ (id ≠ H.next ∧ H.get id = some o') := by
    intro id o' hid
    by_cases e : id = H.next
    · subst e; rw [Heap.get_alloc_same] at hid; exact .inl ⟨rfl, (Option.some.inj hid).symm⟩
    · rw [Heap.get_alloc_ne _ _ (Ne.symm e)] at hid; exact .inr ⟨e, hid⟩
  have hno' : NoOwn (H.alloc (.row vs elem .ro)) := by
    intro id o hid
    rcases hinv id o hid with ⟨_, rfl⟩ | ⟨_, hid⟩
    · rfl
    · exact hno id o hid
  refine ⟨⟨?_, ?_, ?_, ?_, (h.glob.sig fun i hi => upd_below i hi).mono (Nat.le_succ _)⟩, hno'⟩
  · intro id o' hid
    rcases hinv id o' hid with ⟨rfl, rfl⟩ | ⟨hne, hid⟩
    · refine .inr ⟨c, fr, ?_, ?_, ?_, fun hk => absurd rfl hk, (fun hk => by cases hk), (fun hg => absurd hg (Nat.not_lt.2 h.glob.1)), (fun hk => by cases hk)⟩
      · rw [upd_same]; exact hb
      · rw [upd_same]; exact hle
      · intro j v hj; rw [upd_same]; exact hv j v hj
    · exact ObjRep.of_sig (n := H.next) (σ := σ) (h.obj id o' hid) (fun i hi => upd_below i hi) (h.lt id o' hid) (h.stab id o' hid)
  · intro id o' hid
    rcases hinv id o' hid with ⟨rfl, _⟩ | ⟨_, hid⟩
    · exact Nat.lt_succ_self _
    · exact Nat.lt_succ_of_lt (h.lt id o' hid)
  · intro i j oi oj hij hi hj hli hoj
    rw [hno' j oj hj] at hoj
    cases hoj
  · intro id o' hid
    rcases hinv id o' hid with ⟨_, rfl⟩ | ⟨_, hid⟩
    · exact hs
    · exact (h.stab id o' hid).mono (Nat.le_succ _)

/-- A place more of which nothing is known. -/
theorem Rep.addDead {σ : Sig} {H : Heap} {w : World} (h : Rep P σ H w) (hno : NoOwn H) (p : Place) (elem : TypeId) :
    Rep P (upd σ H.next p) (H.alloc (.row [] elem .dead)) w ∧ NoOwn (H.alloc (.row [] elem .dead)) := by
  have hinv : ∀ id o', (H.alloc (.row [] elem .dead)).get id = some o' → (id = H.next ∧ o' = .row [] elem .dead) ∨ (id ≠ H.next ∧ H.get id = some o') := by
    intro id o' hid
    by_cases e : id = H.next
    · subst e; rw [Heap.get_alloc_same] at hid; exact .inl ⟨rfl, (Option.some.inj hid).symm⟩
    · rw [Heap.get_alloc_ne _ _ (Ne.symm e)] at hid; exact .inr ⟨e, hid⟩
  have hno' : NoOwn (H.alloc (.row [] elem .dead)) := by
    intro id o hid
    rcases hinv id o hid with ⟨_, rfl⟩ | ⟨_, hid⟩
    · rfl
    · exact hno id o hid
  refine ⟨⟨?_, ?_, ?_, ?_, (h.glob.sig fun i hi => upd_below i hi).mono (Nat.le_succ _)⟩, hno'⟩
  · intro id o' hid
    rcases hinv id o' hid with ⟨rfl, rfl⟩ | ⟨hne, hid⟩
    · exact .inl rfl
    · exact ObjRep.of_sig (n := H.next) (σ := σ) (h.obj id o' hid) (fun i hi => upd_below i hi) (h.lt id o' hid) (h.stab id o' hid)
  · intro id o' hid
    rcases hinv id o' hid with ⟨rfl, _⟩ | ⟨_, hid⟩
    · exact Nat.lt_succ_self _
    · exact Nat.lt_succ_of_lt (h.lt id o' hid)
  · intro i j oi oj hij hi hj hli hoj
    rw [hno' j oj hj] at hoj
    cases hoj
  · intro id o' hid
    rcases hinv id o' hid with ⟨_, rfl⟩ | ⟨_, hid⟩
    · exact fun v hv => by cases hv
    · exact (h.stab id o' hid).mono (Nat.le_succ _)

/-- A global variable's row, that is only read. -/
theorem Rep.addGlob {σ : Sig} {H : Heap} {w : World} (h : Rep P σ H w) (hno : NoOwn H) {g : Nat} (hg : g < P.globals.size) {vs : List Value} {elem : TypeId} {c : Array Value} {fr : Nat × Nat} (hb : w.heap[g]? = some (.cells c elem fr)) (hle : vs.length = c.size)
    (hv : ∀ (j : Nat) v, vs[j]? = some v → c[j]? = some v) (hs : ∀ v ∈ vs, clo v = true) :
    Rep P σ (H.set g (.row vs elem .ro)) w ∧ NoOwn (H.set g (.row vs elem .ro)) := by
  have hinv : ∀ id o', (H.set g (.row vs elem .ro)).get id = some o' → (id = g ∧ o' = .row vs elem .ro) ∨ (id ≠ g ∧ H.get id = some o') := by
    intro id o' hid
    by_cases e : id = g
    · subst e; rw [Heap.get_set_same] at hid; exact .inl ⟨rfl, (Option.some.inj hid).symm⟩
    · rw [Heap.get_set_ne _ _ (Ne.symm e)] at hid; exact .inr ⟨e, hid⟩
  have hno' : NoOwn (H.set g (.row vs elem .ro)) := by
    intro id o hid
    rcases hinv id o hid with ⟨_, rfl⟩ | ⟨_, hid⟩
    · rfl
    · exact hno id o hid
  have hσ := h.glob.2 g hg
  refine ⟨⟨?_, ?_, ?_, ?_, h.glob⟩, hno'⟩
  · intro id o' hid
    rcases hinv id o' hid with ⟨rfl, rfl⟩ | ⟨hne, hid⟩
    · refine .inr ⟨c, fr, ?_, ?_, ?_, fun hk => absurd rfl hk, (fun hk => by cases hk), (fun _ => hle.symm), (fun hk => by cases hk)⟩
      · rw [hσ]; exact hb
      · rw [hσ]; simpa using Nat.le_of_eq hle
      · intro j v hj
        rw [hσ, ren_clo _ v (hs v (List.mem_of_getElem? hj))]
        simpa using hv j v hj
    · exact h.obj id o' hid
  · intro id o' hid
    rcases hinv id o' hid with ⟨rfl, _⟩ | ⟨_, hid⟩
    · exact Nat.lt_of_lt_of_le hg h.glob.1
    · exact h.lt id o' hid
  · intro i j oi oj hij hi hj hli hoj
    rw [hno' j oj hj] at hoj
    cases hoj
  · intro id o' hid
    rcases hinv id o' hid with ⟨_, rfl⟩ | ⟨_, hid⟩
    · exact fun v hv => .clo (hs v hv)
    · exact h.stab id o' hid
end
end
end Go.Proofs.YtibeinbfhhoeiaaGreatDoor.Ab

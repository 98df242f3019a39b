/- Walking code with symbolic values: a drawn region that only looks. Things lent to a call; slices of slices that are one's own. The bridge: an abstract heap of rows that are only read, and a contract, give a call in the world. The bridge, 2: edges in rows, out of the world. The types of the program, as a table. -/
import Derived.Test.YtibeinbfhhoeiaaGreatDoorZJ3
import Derived.Test.YtibeinbfhhoeiaaGreatDoorZA6
import Derived.Test.YtibeinbfhhoeiaaGreatDoorProg
namespace Go.Proofs.YtibeinbfhhoeiaaGreatDoor.Ab
open Go
noncomputable section
section
variable {P : Program} {hk : FuncId → Option (List Value → Heap → AEnd)} {n : Nat} {Q : LPost} {K : List KI} {E : Env} {D : Dl} {M : Imm} {L : List Seg} {rc : RC}

/-- It touches no memory, or looks at it. -/
def quiet1 (T : TT) (o : Oper) : Bool := match o.op with
  | .load _ _ => true
  | .slice t _ _ _ _ => match T.get t with
    | some i => (match i.k with | .str => true | _ => false)
    | none => false
  | op => match clOf op with
    | .pure => true
    | .conv => (match op with | .call _ => true | _ => false)
    | _ => false
def quietB (T : TT) : List Oper → Bool
  | [] => true
  | o :: l => quiet1 T o && quietB T l

theorem quiet_step {T : TT} (hT : TOk P T) {o : Oper} (hq : quiet1 T o = true) {F : Fr} {H H1 : Heap} {v : Value} (h : xop P (F.ev P) H o = some (v, H1)) :
    H1 = H ∧ ∀ (r : Rec) (i m : Nat) (Rs : List Looked), ∃ Rs', dOp P r n i m o F H [] H.next [] Rs = (dput n F o.dst v).map fun F' => ⟨F', H, [], H.next, [], Rs'⟩ := by
  have pur : clOf o.op = .pure → memOp o.op = false → H1 = H ∧ xpure P (F.ev P) o = some v := by
    intro hc hm
    unfold xop at h
    rw [hm] at h
    cases hp : xpure P (F.ev P) o with
    | some u =>
      rw [hp] at h
      simp only [Option.some.injEq, Prod.mk.injEq] at h
      obtain ⟨rfl, rfl⟩ := h
      exact ⟨rfl, rfl⟩
    | none =>
      rw [hp] at h
      exfalso
      cases hop : o.op <;> rw [hop] at hc <;> first | (simp only [clOf, reduceCtorEq] at hc; done) | skip
      case call c =>
        simp only [clOf] at hc
        cases hcal : c.callee with
        | value f => rw [hcal] at hc; cases hc
        | invoke a b => rw [hcal] at hc; cases hc
        | builtin bu =>
          rw [hcal] at hc
          unfold xheap xhCall at h
          simp only [hop, hcal] at h
          cases bu <;> first | (cases hc; done) | (cases h; done)
      all_goals (unfold xheap at h; simp only [hop] at h; cases h)
  have fin : ∀ {x : Option Value}, x = some v → ∀ (Rs : List Looked), ∃ Rs', dPure n o x F H [] H.next [] Rs = (dput n F o.dst v).map fun F' => ⟨F', H, [], H.next, [], Rs'⟩ := by
    rintro x rfl Rs
    refine ⟨Rs, ?_⟩
    show (match dput n F o.dst v with
      | some F' => some (⟨F', H, [], H.next, [], Rs⟩ : DS)
      | none => none) = _
    cases dput n F o.dst v <;> rfl
  have look : xheap P (F.ev P) H o = some (v, H) → ∀ (i m : Nat) (Rs : List Looked), ∃ Rs', dRead P n i m o F H [] H.next [] Rs = (dput n F o.dst v).map fun F' => ⟨F', H, [], H.next, [], Rs'⟩ := by
    intro hx i m Rs
    refine ⟨⟨i, o, v, F⟩ :: Rs, ?_⟩
    have hl : xlook P (F.ev P) ⟨viewT H.t H.next (bit m) [], H.next⟩ o = some v := by
      show xlook P (F.ev P) H o = some v
      unfold xlook
      rw [hx]
      simp only [Nat.beq_refl]
    unfold dRead
    rw [hl]
    simp only [back]
    cases dput n F o.dst v <;> rfl
  unfold quiet1 at hq
  cases hop : o.op with
  | load t x =>
    unfold xop at h
    simp only [hop, memOp] at h
    have hh : H1 = H := by
      unfold xheap at h
      simp only [hop] at h
      unfold xhLoad at h
      split at h
      · split at h
        · simp only [Option.some.injEq, Prod.mk.injEq] at h; exact h.2.symm
        · cases h
      · cases h
    subst hh
    refine ⟨rfl, fun r i m Rs => ?_⟩
    unfold dOp
    simp only [hop, clOf]
    exact look h i m Rs
  | slice t x lo hi mx =>
    rw [hop] at hq
    simp only at hq
    unfold xop at h
    simp only [hop, memOp] at h
    have hh : H1 = H := by
      split at hq
      · rename_i ti hti
        have hk' : ti.k = .str := by
          cases hk : ti.k <;> rw [hk] at hq <;> first | rfl | cases hq
        unfold xheap at h
        simp only [hop] at h
        unfold xhSlice at h
        split at h
        · unfold xslice at h
          rw [(hT _ _ hti).str hk'] at h
          rename_i va _ _ _ _ _ _ _
          cases va <;> first
            | (cases h; done)
            | skip
          simp only at h
          repeat' (first | (cases h; done) | (simp only [Option.some.injEq, Prod.mk.injEq] at h; exact h.2.symm) | split at h)
        · cases h
      · cases hq
    subst hh
    refine ⟨rfl, fun r i m Rs => ?_⟩
    unfold dOp
    simp only [hop, clOf]
    exact look h i m Rs
  | call c =>
    rw [hop] at hq
    simp only at hq
    cases hc : clOf (.call c) with
    | pure =>
      obtain ⟨h1, h2⟩ := pur (by rw [hop]; exact hc) (by rw [hop]; rfl)
      refine ⟨h1, fun r i m Rs => ?_⟩
      unfold dOp
      simp only [hop, hc]
      exact fin h2 Rs
    | conv =>
      unfold xop at h
      simp only [hop, memOp] at h
      cases hp : xpure P (F.ev P) o with
      | some u =>
        rw [hp] at h
        simp only [Option.some.injEq, Prod.mk.injEq] at h
        obtain ⟨rfl, rfl⟩ := h
        refine ⟨rfl, fun r i m Rs => ?_⟩
        unfold dOp
        simp only [hop, hc, hp]
        exact fin rfl Rs
      | none =>
        rw [hp] at h
        have hh : H1 = H := by
          unfold xheap xhCall at h
          simp only [hop] at h
          simp only [clOf] at hc
          cases hcal : c.callee with
          | value f => rw [hcal] at hc; cases hc
          | invoke a b => rw [hcal] at hc; cases hc
          | builtin bu =>
            rw [hcal] at hc h
            cases bu <;> first | (cases hc; done) | skip
            simp only at h
            unfold xhLen at h
            repeat' (first | (cases h; done) | (simp only [Option.some.injEq, Prod.mk.injEq] at h; exact h.2.symm) | split at h)
        subst hh
        refine ⟨rfl, fun r i m Rs => ?_⟩
        unfold dOp
        simp only [hop, hc, hp]
        exact look h i m Rs
    | _ => rw [hc] at hq; cases hq
  | _ =>
    rw [hop] at hq
    simp only [clOf] at hq
    first
    | (cases hq; done)
    | (obtain ⟨h1, h2⟩ := pur (by rw [hop]; rfl) (by rw [hop]; rfl)
       refine ⟨h1, fun r i m Rs => ?_⟩
       unfold dOp
       simp only [hop, clOf]
       exact fin h2 Rs)
theorem quiet_plain {T : TT} {o : Oper} (hq : quiet1 T o = true) : plainOp o.op = true := by
  unfold quiet1 at hq
  cases hop : o.op <;> rw [hop] at hq <;> first | rfl | (simp [clOf] at hq; done) | skip
  case call c =>
    simp only [clOf] at hq
    cases hc : c.callee with
    | value f => rw [hc] at hq; cases hq
    | invoke a b => rw [hc] at hq; cases hq
    | builtin bu => rw [hc] at hq; simp only [plainOp, hc]; cases bu <;> first | rfl | (cases hq; done)
theorem quiet_ops {T : TT} (hT : TOk P T) {a : Array Oper} {r : Rec} : ∀ (l : List Oper) (k : Nat) (ms : List Nat) (i : Nat) {F F' : Fr} {H H' : Heap} {D D' : Dl} {rc rc' : RC} (Rs : List Looked), ms.length = l.length → quietB T l = true →
    (run P hk k).ops n a l F D H rc = .normal F' D' H' rc' → D' = D ∧ rc' = rc ∧ H' = H ∧ ∃ Rs', dOps P r n a l ms i ⟨F, H, [], H.next, [], Rs⟩ = some ⟨F', H, [], H.next, [], Rs'⟩
  | [], k, ms, i, F, F', H, H', D, D', rc, rc', Rs, _, _, h => by
    cases k with
    | zero => cases h
    | succ k =>
      rw [ops_succ] at h
      unfold stepOps at h
      simp only [Out.normal.injEq] at h
      obtain ⟨rfl, rfl, rfl, rfl⟩ := h
      exact ⟨rfl, rfl, rfl, Rs, by cases ms <;> rfl⟩
  | o :: l, k, [], i, F, F', H, H', D, D', rc, rc', Rs, hm, _, h => by cases hm
  | o :: l, 0, m :: ms, i, F, F', H, H', D, D', rc, rc', Rs, _, _, h => by cases h
  | o :: l, k + 1, m :: ms, i, F, F', H, H', D, D', rc, rc', Rs, hm, hq, h => by
    simp only [quietB, Bool.and_eq_true] at hq
    obtain ⟨hq1, hq2⟩ := hq
    have hm' : ms.length = l.length := by simpa using hm
    rw [ops_succ] at h
    unfold stepOps at h
    simp only at h
    have next : ∀ {v : Value} {H1 : Heap}, soNext (run P hk k) n a l o.dst v F D H1 rc = .normal F' D' H' rc' → ∃ F1, dput n F o.dst v = some F1 ∧ (run P hk k).ops n a l F1 D H1 rc = .normal F' D' H' rc' := by
      intro v H1 h
      unfold soNext at h
      unfold dput
      cases hd : o.dst with
      | none => rw [hd] at h; exact ⟨F, rfl, h⟩
      | some d =>
        rw [hd] at h
        simp only at h ⊢
        split at h
        · cases h
        · rename_i hb; exact ⟨_, by simp only, h⟩
    split at h
    · rename_i hg
      rw [stepOp_plain (quiet_plain hq1)] at h
      cases hx : xop P (F.ev P) H o with
      | none => rw [hx] at h; cases h
      | some p =>
        obtain ⟨v, H1⟩ := p
        rw [hx] at h
        simp only [soHeap, soThen] at h
        obtain ⟨rfl, hs⟩ := quiet_step (n := n) hT hq1 hx
        obtain ⟨F1, hp, h⟩ := next h
        obtain ⟨Rs1, hs⟩ := hs r i m Rs
        obtain ⟨e1, e2, e3, Rs2, e4⟩ := quiet_ops hT l k ms (i + 1) Rs1 hm' hq2 h
        refine ⟨e1, e2, e3, Rs2, ?_⟩
        unfold dOps dStep
        simp only [hg, hs, hp, Option.map_some]
        exact e4
    · rename_i hg
      obtain ⟨F1, hp, h⟩ := next h
      obtain ⟨e1, e2, e3, Rs2, e4⟩ := quiet_ops hT l k ms (i + 1) Rs hm' hq2 h
      refine ⟨e1, e2, e3, Rs2, ?_⟩
      unfold dOps dStep
      simp only [hg, dPure, hp]
      exact e4
    · cases h
/-- A drawn region that only looks, walked in the text's order. -/
theorem J.drawQ {T : TT} (hT : TOk P T) {id : Nat} {a : Array Oper} (hf : P.follows .mixedOrders = true) (ho : orderly a = true) (hch : chainOf a = none) (hq : quietB T a.toList = true) (hms : Nat.beq (befores a).length a.toList.length = true)
    (h : J P hk n (fun E' D' M' L' rc' m => m = .ret ∧ D' = D ∧ rc' = rc ∧ J P hk n Q K E' D M' L' rc) [.ops a a.toList] E D M L rc) : J P hk n Q (.code (.region id a true) :: K) E D M L rc := by
  intro F H ha hs
  obtain ⟨k, F1, H1, E1, M1, L1, r1, a1, a2, a3, a4, hj⟩ := J.opsRun (R := fun E' M' L' => J P hk n Q K E' D M' L' rc) h ha hs
  obtain ⟨_, _, rfl, Rs, e⟩ := quiet_ops (r := run P hk k) hT a.toList k (befores a) 0 [] (Nat.eq_of_beq_eq_true hms) hq r1
  obtain ⟨out, f1, f2⟩ := hj F1 H1 a1 a2
  refine ⟨out, .go ⟨k + 1, ?_⟩ f1, f2.after a3 a4⟩
  rw [code_succ]
  show stepDraw P (run P hk k) n a F D H1 rc = _
  unfold stepDraw
  simp only [hf, ho, hch, e]
  rfl
end
end
end Go.Proofs.YtibeinbfhhoeiaaGreatDoor.Ab

namespace Go.Proofs.YtibeinbfhhoeiaaGreatDoor.Ab
open Go Go.Proofs
noncomputable section
attribute [local irreducible] J

/-- What one owns may be lent: a call that only reads it, leaves it. -/
theorem Con.lend {P : Program} {hk : FuncId → Option (List Value → Heap → AEnd)} {f : FuncId} {args : List Value} {M : Imm} {l : Seg} {Qc : Res → Seg → Prop} (s : Seg)
    (c : MLe M (freeze M s) → (s.map (·.1)).Nodup → Con P hk f args (freeze M s) l Qc) : Con P hk f args M (s ++ l) (fun x l'' => ∃ l', l'' = s ++ l' ∧ Qc x l') := by
  intro H hs
  have hle : MLe M (freeze M s) := by
    intro id x hx
    unfold freeze
    cases hr : rowOf s id with
    | none => exact hx
    | some y =>
      obtain ⟨c, t⟩ := y
      obtain ⟨k, _, hm⟩ := rowOf_mem hr
      have := hs.apart _ (List.mem_append_left _ hm)
      simp only at this
      rw [this] at hx
      cases hx
  have hnd := hs.nd
  rw [List.map_append, List.nodup_append] at hnd
  have hne : ∀ p ∈ l, ∀ q ∈ s, q.1 ≠ p.1 := fun p hp q hq => hnd.2.2 _ (List.mem_map_of_mem hq) _ (List.mem_map_of_mem hp)
  have hs1 : Sat (freeze M s) l H := by
    refine { wf := hs.wf, imm := ?_, nd := hnd.2.1, own := fun p hp => hs.own p (List.mem_append_right _ hp), apart := ?_ }
    · intro id c t hx
      unfold freeze at hx
      cases hr : rowOf s id with
      | none => rw [hr] at hx; exact hs.imm id c t hx
      | some y =>
        rw [hr] at hx
        cases hx
        obtain ⟨k, hd, hm⟩ := rowOf_mem hr
        exact ⟨k, hd, hs.own _ (List.mem_append_left _ hm)⟩
    · intro p hp
      unfold freeze
      cases hr : rowOf s p.1 with
      | none => exact hs.apart p (List.mem_append_right _ hp)
      | some y =>
        obtain ⟨c, t⟩ := y
        obtain ⟨k, _, hm⟩ := rowOf_mem hr
        exact absurd rfl (hne p hp (p.1, .row c t k) hm)
  obtain ⟨k, x, H', l', h1, h2, h3, h4⟩ := c hle hnd.1 H hs1
  have hk : ∀ q ∈ s, H'.get q.1 = some q.2 ∧ ∀ p ∈ l', p.1 ≠ q.1 := fun q hq => h3.keep q.1 q.2 (hs.own q (List.mem_append_left _ hq)) fun p hp e => hne p hp q hq e.symm
  refine ⟨k, x, H', s ++ l', h1, ?_, ?_, l', rfl, h4⟩
  · refine { wf := h2.wf, imm := fun id c t hx => h2.imm id c t (hle _ _ hx), nd := ?_, own := ?_, apart := ?_ }
    · rw [List.map_append, List.nodup_append]
      refine ⟨hnd.1, h2.nd, fun a ha b hb e => ?_⟩
      obtain ⟨q, hq, rfl⟩ := List.mem_map.1 ha
      obtain ⟨p, hp, rfl⟩ := List.mem_map.1 hb
      exact (hk q hq).2 p hp e.symm
    · intro p hp
      rcases List.mem_append.1 hp with hp | hp
      · exact (hk p hp).1
      · exact h2.own p hp
    · intro p hp
      rcases List.mem_append.1 hp with hp | hp
      · exact hs.apart p (List.mem_append_left _ hp)
      · have := h2.apart p hp
        cases e : M p.1 with
        | none => rfl
        | some y => rw [hle _ _ e] at this; cases this
  · refine ⟨h3.nxt, fun id o ho hn => ?_⟩
    obtain ⟨a, b⟩ := h3.keep id o ho fun p hp => hn p (List.mem_append_right _ hp)
    refine ⟨a, fun p hp => ?_⟩
    rcases List.mem_append.1 hp with hp | hp
    · exact hn p (List.mem_append_left _ hp)
    · exact b p hp

/-- Slices that grew, each with what it holds. -/
def segs {α : Type} (G : List (Seg × List α)) : Seg := G.flatMap (·.1)
def slOf {α : Type} (g : Seg × List α) : SlOf α := ⟨segA g.1, segC g.1, g.2⟩
def AllOwn (t : TypeId) {α : Type} (e : El α) (G : List (Seg × List α)) : Prop := ∀ g ∈ G, Own t e g.1 g.2
theorem segs_app {α : Type} (G H : List (Seg × List α)) : segs (G ++ H) = segs G ++ segs H := by simp [segs]
theorem segs_one {α : Type} (g : Seg × List α) : segs [g] = g.1 := by simp [segs]
theorem AllOwn.add {t : TypeId} {α : Type} {e : El α} {G : List (Seg × List α)} {g : Seg × List α} (h : AllOwn t e G) (hg : Own t e g.1 g.2) : AllOwn t e (G ++ [g]) := fun x hx => by
  rcases List.mem_append.1 hx with hx | hx
  · exact h x hx
  · cases List.mem_singleton.1 hx; exact hg

theorem rowOf_of : ∀ {s : Seg}, (s.map (·.1)).Nodup → ∀ {id : Nat} {c : List Value} {t : TypeId} {k : Kind}, (id, AObj.row c t k) ∈ s → isDead k = false → rowOf s id = some (c, t)
  | [], _, _, _, _, _, h, _ => by cases h
  | p :: l, hnd, id, c, t, k, h, hd => by
    rw [List.map_cons, List.nodup_cons] at hnd
    rcases List.mem_cons.1 h with h | h2
    · subst h
      simp only [rowOf, Nat.beq_refl, hd]
    · have hne : Nat.beq p.1 id = false := by
        cases e : Nat.beq p.1 id with
        | false => rfl
        | true =>
          have := Nat.eq_of_beq_eq_true e
          exact absurd (this ▸ List.mem_map_of_mem (f := (·.1)) h2) hnd.1
      obtain ⟨i, o⟩ := p
      cases o <;> simp only [rowOf, hne] <;> exact rowOf_of hnd.2 h2 hd
/-- What was lent can be read. -/
theorem isSl_segs {t : TypeId} {α : Type} {e : El α} {G : List (Seg × List α)} {M : Imm} (h : AllOwn t e G) (hnd : ((segs G).map (·.1)).Nodup) (hsz : ∀ x, (e.enc x).length = e.sz) {g : Seg × List α} (hg : g ∈ G) (hl : g.2.length ≤ 1099511627776) : IsSl (freeze M (segs G)) e (segA g.1) g.2 := by
  rcases h g hg with ⟨h1, h2⟩ | ⟨id, h1, h2⟩
  · rw [h1, h2]; exact IsSl.nil _ e
  · rw [h1]
    have hm : (id, AObj.row (g.2.flatMap e.enc) t .opn) ∈ segs G := List.mem_flatMap.2 ⟨g, hg, by rw [h1]; exact .head _⟩
    refine isSl_row (t := t) rfl ?_ hsz hl
    unfold freeze
    rw [rowOf_of hnd hm rfl]
theorem isSl_lent {t : TypeId} {α : Type} {e : El α} {M : Imm} {s : Seg} {l : List α} (h : Own t e s l) (hsz : ∀ x, (e.enc x).length = e.sz) (hl : l.length ≤ 1099511627776) : IsSl (freeze M s) e (segA s) l := isSl_own h (MLe.refl _) hsz hl

section
variable {P : Program} {hk : FuncId → Option (List Value → Heap → AEnd)} {n : Nat} {Q : LPost} {K : List KI} {D : Dl} {M : Imm} {L : List Seg} {rc : RC} {a : Array Oper} {rest : List Oper} {E : Env} {dst : Option Tmp} {f : FuncId} {args : List Value}
/-- A call that something is lent to, and that gives a value, and nothing else. -/
theorem CallJ.lend {u : Value} {s : Seg} {R : List Seg} (hp : Pick L s R) (c : MLe M (freeze M s) → (s.map (·.1)).Nodup → Con P hk f args (freeze M s) [] (Gives u [])) (hr : J P hk n Q (.ops a rest :: K) (E.put dst u) D M L rc) :
    CallJ P hk n Q K D M L rc a rest E dst f args := by
  refine CallJ.mk (l0 := s ++ []) (R := R) (by rw [List.append_nil]; exact hp.perm) (Con.lend s c) ?_ ?_
  · rintro v l'' ⟨l', rfl, hv, rfl⟩
    subst hv
    exact hr.perm (by simpa using hp.perm.symm)
  · rintro v l'' ⟨l', rfl, hv⟩
    exact hv.elim
/-- .. and that gives something of one's own. -/
theorem CallJ.lendR {Qr : Value → Seg → Prop} {s : Seg} {R : List Seg} (hp : Pick L s R) (c : MLe M (freeze M s) → (s.map (·.1)).Nodup → Con P hk f args (freeze M s) [] (Returns Qr))
    (hr : ∀ v l', Qr v l' → J P hk n Q (.ops a rest :: K) (E.put dst v) D M (l' :: L) rc) :
    CallJ P hk n Q K D M L rc a rest E dst f args := by
  refine CallJ.mk (l0 := s ++ []) (R := R) (by rw [List.append_nil]; exact hp.perm) (Con.lend s c) ?_ ?_
  · rintro v l'' ⟨l', rfl, hv⟩
    refine (hr v l' hv).perm ?_
    have := hp.perm
    simp only [List.flatten_cons]
    refine (List.Perm.append_right _ List.perm_append_comm).trans ?_
    rw [List.append_assoc]
    exact List.Perm.append_left _ this.symm
  · rintro v l'' ⟨l', rfl, hv⟩
    exact hv.elim
end
/-- A deferred call, by its body. -/
theorem DCon.of_body {P : Program} {hk : FuncId → Option (List Value → Heap → AEnd)} {f : FuncId} {args : List Value} {M : Imm} {l : Seg} {m : RC} {Rd : Seg → RC → Prop} {fn : Func} {c : Code} {n : Nat} {E0 : Env} (hf : P.funcs[f]? = some fn)
    (hb : fn.body = some c) (hnm : (fn.name == "runtime.NumGoroutine") = false) (hn : fn.ntmps = n) (hle : Nat.ble args.length n = true) (hres : fn.results.toList = []) (hE : argEnv 0 args = E0) (hm : m ≠ .norm)
    (hj : J P hk n (fun _ D _ L rc' x => x = .ret ∧ D = [] ∧ rc' ≠ .norm ∧ Rd L.flatten rc') [.code c] E0 [] M [l] m) : DCon P hk f args M l m Rd := by
  subst hE
  intro H hs
  unfold J at hj
  obtain ⟨out, h1, h2⟩ := hj _ H (agree_args args) (by simpa using hs)
  have hen : enters P f = some (fn, c) := by unfold enters; simp only [hf, hb, hnm]
  have fin : ∀ {o : Out} {D' : Dl} {H' : Heap} {M' : Imm} {L' : List Seg} {rc' : RC} {k : Nat}, (run P hk k).code n c (putArgs 0 args .lf) [] H m = o → scDone o = scKeep H' rc' → rc' ≠ .norm →
      Sat M' (List.flatten L') H' → MLe M M' → Frm l H (List.flatten L') H' → Rd L'.flatten rc' →
      ∃ k H' m' l', (run P hk k).dcall f args H m = some (H', m') ∧ Sat M l' H' ∧ Frm l H l' H' ∧ Rd l' m' := by
    intro o D' H' M' L' rc' k hc hsc hne e2 hm' hfr hr
    refine ⟨k + 1, H', rc', L'.flatten, ?_, ⟨e2.wf, fun id c t h => e2.imm id c t (hm' _ _ h), e2.nd, e2.own, fun p hp => ?_⟩, hfr, hr⟩
    · show stepDcall P (run P hk k) f args H m = _
      unfold stepDcall
      have : scDone ((run P hk k).code n c (putArgs 0 args .lf) [] H m) = some (H', rc') := by
        rw [hc, hsc]
        cases rc' with
        | norm => exact absurd rfl hne
        | ret => rfl
        | pan v b => rfl
      cases m with
      | norm => exact absurd rfl hm
      | ret => simp only [hen, hn, hle, hres, this]
      | pan v b => simp only [hen, hn, hle, hres, this]
    · have := e2.apart p hp
      cases e : M p.1 with
      | none => rfl
      | some y => rw [hm' _ _ e] at this; cases this
  cases h1 with
  | go a b =>
    obtain ⟨k, hk'⟩ := a
    cases b
    obtain ⟨E', M', L', a1, a2, a3, a4, _, a5, a6, a7⟩ := h2
    subst a5
    exact fin (D' := []) hk' rfl a6 a2 a3 (by simpa using a4) a7
  | exit a b c => simp [popTo] at b
  | ret a =>
    obtain ⟨k, hk'⟩ := a
    obtain ⟨E', M', L', a1, a2, a3, a4, _, a5, a6, a7⟩ := h2
    subst a5
    exact fin (D' := []) hk' rfl a6 a2 a3 (by simpa using a4) a7
  | panic a =>
    obtain ⟨k, hk'⟩ := a
    obtain ⟨E', M', L', a1, a2, a3, a4, a5, _⟩ := h2
    cases a5
end
end Go.Proofs.YtibeinbfhhoeiaaGreatDoor.Ab

namespace Go.Proofs.YtibeinbfhhoeiaaGreatDoor.Ab
open Go Go.Proofs
noncomputable section

/-- The rows that are only read. -/
def immOf (H : Heap) : Imm := fun id => match H.get id with
  | some (.row cells t .ro) => some (cells, t)
  | _ => none
theorem immOf_get {H : Heap} {id : Nat} {cells : List Value} {t : TypeId} (h : H.get id = some (.row cells t .ro)) : immOf H id = some (cells, t) := by
  unfold immOf; rw [h]
theorem sat_imm {P : Program} {σ : Sig} {H : Heap} {w : World} (hR : Rep P σ H w) : Sat (immOf H) [] H where
  wf := hR.lt
  imm id c t hx := by
    unfold immOf at hx
    split at hx
    · rename_i cells u hg
      cases hx
      exact ⟨.ro, rfl, hg⟩
    · cases hx
  nd := List.nodup_nil
  own p hp := by cases hp
  apart p hp := by cases hp

/-- A contract that gives true, read in the world: the call returns true, and all that stood, stands. -/
theorem calls_true {P : Program} {hk : FuncId → Option (List Value → Heap → AEnd)} (hhk : HkOk P hk) {f : FuncId} {args : List Value} {σ : Sig} {H : Heap} {w : World} (hR : Rep P σ H w) (hno : NoOwn H) (hst : ∀ v ∈ args, Stab H.next v)
    (c : Con P hk f args (immOf H) [] (Gives (.bool true) [])) :
    Calls P f ⟨args.map (ren σ)⟩ w fun e w' => e = .returned (.bool true) ∧ w'.os = w.os ∧ w'.tape = w.tape ∧ w'.output = w.output ∧ w.heap.size ≤ w'.heap.size ∧ ∀ b, b < w.heap.size → w'.heap[b]? = w.heap[b]? := by
  obtain ⟨k, x, H', l', h1, h2, h3, h4⟩ := c H (sat_imm hR)
  cases x with
  | pan v => exact h4.elim
  | ret v =>
    obtain ⟨rfl, rfl⟩ := h4
    have hs := (run_sound hhk k).call f args H (by rw [h1]; simp [toEnd])
    have := hs.2 σ w hR hst
    rw [h1] at this
    refine this.mono fun e w' he => ?_
    obtain ⟨σ', rfl, _, hS, _⟩ := he
    exact ⟨rfl, hS.os, hS.tape, hS.output, hS.size, fun b hb => hS.frame b hb fun i o hi ho => by rw [hno i o hi] at ho; cases ho⟩
end
end Go.Proofs.YtibeinbfhhoeiaaGreatDoor.Ab

namespace Go.Proofs.YtibeinbfhhoeiaaGreatDoor.Ab
open Go Go.Proofs
noncomputable section

/-- A block holds these values from a place on. -/
def PieceAt (w : World) (blk off : Nat) (cells : List Value) : Prop := ∃ c t fr, w.heap[blk]? = some (.cells c t fr) ∧ off + cells.length ≤ c.size ∧ ∀ (j : Nat) v, cells[j]? = some v → c[off + j]? = some v
/-- A slice's value, and what it holds. -/
def PtW (w : World) (v : Value) (n : Nat) (cells : List Value) : Prop := (∃ a cap, v = .slice a 0 cap ∧ n = 0) ∨ ∃ blk off cap, v = .slice (some ⟨blk, off, none⟩) n cap ∧ PieceAt w blk off cells
def SlW (w : World) {α : Type} (e : El α) (v : Value) (l : List α) : Prop := PtW w v l.length (l.flatMap e.enc)

/-- An abstract heap goes on. -/
structure Ext (σ : Sig) (H : Heap) (σ' : Sig) (H' : Heap) : Prop where
  nxt : H.next ≤ H'.next
  sig : ∀ i, i < H.next → σ i = σ' i
  get : ∀ id o, H.get id = some o → H'.get id = some o
theorem Ext.refl (σ : Sig) (H : Heap) : Ext σ H σ H := ⟨Nat.le_refl _, fun _ _ => rfl, fun _ _ h => h⟩
theorem Ext.trans {σ σ1 σ2 : Sig} {H H1 H2 : Heap} (a : Ext σ H σ1 H1) (b : Ext σ1 H1 σ2 H2) : Ext σ H σ2 H2 :=
  ⟨Nat.le_trans a.nxt b.nxt, fun i hi => (a.sig i hi).trans (b.sig i (Nat.lt_of_lt_of_le hi a.nxt)), fun id o h => b.get id o (a.get id o h)⟩
theorem Ext.mle {σ σ' : Sig} {H H' : Heap} (h : Ext σ H σ' H') : MLe (immOf H) (immOf H') := by
  intro id x hx
  unfold immOf at hx
  split at hx
  · rename_i cells t hg
    cases hx
    exact immOf_get (h.get _ _ hg)
  · cases hx

theorem addSl {P : Program} {σ : Sig} {H : Heap} {w : World} (hR : Rep P σ H w) (hno : NoOwn H) {α : Type} {e : El α} {v : Value} {l : List α} (h : SlW w e v l) (hl : l.length ≤ 1099511627776)
    {cells : List Value} (hc : l.flatMap e.enc = cells.map (ren σ)) (hs : ∀ v ∈ cells, Stab H.next v) {el' : El α} (hel : cells = l.flatMap el'.enc) (hsz' : ∀ x, (el'.enc x).length = el'.sz) :
    ∃ σ' H' a c, Rep P σ' H' w ∧ NoOwn H' ∧ Ext σ H σ' H' ∧ ren σ' (.slice a l.length c) = v ∧ Stab H'.next (.slice a l.length c) ∧ IsSl (immOf H') el' a l := by
  rcases h with ⟨p, cap, rfl, hn⟩ | ⟨blk, off, cap, rfl, ca, t, fr, h1, h2, h3⟩
  · have hn := List.length_eq_zero_iff.1 hn
    subst hn
    cases p with
    | none => exact ⟨σ, H, none, cap, hR, hno, Ext.refl _ _, rfl, .clo rfl, IsSl.nil _ _⟩
    | some p =>
      obtain ⟨pb, po, ps⟩ := p
      obtain ⟨r, no⟩ := hR.addDead hno ⟨pb, po, cap⟩ 0
      refine ⟨_, _, some ⟨H.next, 0, ps⟩, OPEN, r, no, ⟨Nat.le_succ _, fun i hi => upd_below i hi, fun id o ho => ?_⟩, ?_, ?_, IsSl.empty _ _ _⟩
      · rw [Heap.get_alloc_ne _ _ (by have := hR.lt id o ho; omega)]; exact ho
      · simp only [ren, renAddr, upd_same, Nat.add_zero, renCap, List.length_nil]
        rw [if_neg (Nat.lt_irrefl _), Nat.sub_self, Nat.sub_zero]
      · intro σ1 σ2 hh
        have := hh H.next (Nat.lt_succ_self _)
        simp only [ren, renAddr, renCap, this]
  · have hren : ∀ v ∈ cells, ren σ v = ren (upd σ H.next ⟨blk, off, cap⟩) v := fun v hv => hs v hv _ _ fun i hi => upd_below i hi
    obtain ⟨r, no⟩ := hR.addRo hno (vs := cells) (elem := t) (c := ca) (fr := fr) (p := ⟨blk, off, cap⟩) h1 (by rw [hc, List.length_map] at h2; exact h2)
      (fun j v hv => by rw [← hren v (List.mem_of_getElem? hv)]; exact h3 j _ (by rw [hc, List.getElem?_map, hv]; rfl)) (fun v hv => (hs v hv).mono (Nat.le_succ _))
    refine ⟨_, _, some ⟨H.next, 0, none⟩, OPEN, r, no, ⟨Nat.le_succ _, fun i hi => upd_below i hi, fun id o ho => ?_⟩, ?_, ?_, ?_⟩
    · rw [Heap.get_alloc_ne _ _ (by have := hR.lt id o ho; omega)]; exact ho
    · simp only [ren, renAddr, upd_same, Nat.add_zero, renCap]
      rw [if_neg (Nat.lt_irrefl _), Nat.sub_self, Nat.sub_zero]
    · intro σ1 σ2 hh
      have := hh H.next (Nat.lt_succ_self _)
      simp only [ren, renAddr, renCap, this]
    · exact isSl_row (t := t) hel (immOf_get (Heap.get_alloc_same _ _)) hsz' hl

theorem flatMap_one {α β : Type} (f : α → β) : ∀ l : List α, l.flatMap (fun x => [f x]) = l.map f
  | [] => rfl
  | x :: l => by rw [List.flatMap_cons, List.map_cons, flatMap_one f l]; rfl
theorem eP_clo {σ : Sig} (l : List P2) : l.flatMap eP.enc = (l.flatMap eP.enc).map (ren σ) := by
  induction l with
  | nil => rfl
  | cons x l ih =>
    rw [List.flatMap_cons, List.map_append, ← ih]
    rfl
theorem eP_stab (n : Nat) (l : List P2) : ∀ v ∈ l.flatMap eP.enc, Stab n v := by
  intro v hv
  obtain ⟨x, _, hx⟩ := List.mem_flatMap.1 hv
  have hx : v ∈ [Value.int .i64 x.1, .int .i64 x.2] := hx
  simp only [List.mem_cons, List.not_mem_nil, or_false] at hx
  rcases hx with rfl | rfl <;> exact .clo rfl

def slV {α : Type} (x : SlOf α) : Value := .slice x.a x.l.length x.c
theorem addRows {P : Program} {w : World} : ∀ (rows : List (Value × List P2)) {σ : Sig} {H : Heap}, Rep P σ H w → NoOwn H → (∀ r ∈ rows, SlW w eP r.1 r.2 ∧ r.2.length ≤ 1099511627776) →
    ∃ σ' H' ls, Rep P σ' H' w ∧ NoOwn H' ∧ Ext σ H σ' H' ∧ rowsOf ls = rows.map (·.2) ∧ (∀ x ∈ ls, IsSl (immOf H') eP x.a x.l) ∧ ls.map (fun x => ren σ' (slV x)) = rows.map (·.1) ∧ ∀ x ∈ ls, Stab H'.next (slV x)
  | [], σ, H, hR, hno, _ => ⟨σ, H, [], hR, hno, Ext.refl _ _, rfl, by simp, rfl, by simp⟩
  | r :: rows, σ, H, hR, hno, h => by
    obtain ⟨σ1, H1, a, c, r1, n1, x1, e1, s1, i1⟩ := addSl hR hno (h r (.head _)).1 (h r (.head _)).2 (eP_clo r.2) (eP_stab H.next r.2) (el' := eP) rfl (fun _ => rfl)
    obtain ⟨σ2, H2, ls, r2, n2, x2, e2, i2, v2, s2⟩ := addRows rows r1 n1 fun x hx => h x (.tail _ hx)
    refine ⟨σ2, H2, ⟨a, c, r.2⟩ :: ls, r2, n2, x1.trans x2, ?_, ?_, ?_, ?_⟩
    · simp only [rowsOf, List.map_cons] at e2 ⊢
      rw [e2]
    · intro x hx
      rcases List.mem_cons.1 hx with rfl | hx
      · exact i1.mono x2.mle
      · exact i2 x hx
    · rw [List.map_cons, List.map_cons, v2]
      congr 1
      rw [← e1]
      exact (s1 σ1 σ2 x2.sig).symm
    · intro x hx
      rcases List.mem_cons.1 hx with rfl | hx
      · exact s1.mono x2.nxt
      · exact s2 x hx

/-- A net's edges, out of the world. -/
def NetW (w : World) (v : Value) (rows : List (Value × List P2)) : Prop :=
  PtW w v rows.length (rows.map (·.1)) ∧ ∀ r ∈ rows, SlW w eP r.1 r.2 ∧ r.2.length ≤ 1099511627776
theorem addNet {P : Program} {w : World} {σ : Sig} {H : Heap} (hR : Rep P σ H w) (hno : NoOwn H) {v : Value} {rows : List (Value × List P2)} (h : NetW w v rows) (hl : rows.length ≤ 1099511627776) :
    ∃ σ' H' a c ls, Rep P σ' H' w ∧ NoOwn H' ∧ Ext σ H σ' H' ∧ ren σ' (.slice a ls.length c) = v ∧ Stab H'.next (.slice a ls.length c) ∧ Rows (immOf H') eP a ls ∧ rowsOf ls = rows.map (·.2) := by
  obtain ⟨σ1, H1, ls, r1, n1, x1, e1, i1, v1, s1⟩ := addRows rows hR hno h.2
  have hlen : ls.length = rows.length := by have := congrArg List.length e1; simpa using this
  have hfm : ls.flatMap (fun x => [ren σ1 (slV x)]) = rows.map (·.1) := by rw [← v1]; exact flatMap_one _ ls
  obtain ⟨σ2, H2, a, c, r2, n2, x2, e2, s2, i2⟩ := addSl r1 n1 (v := v) (l := ls) (e := (⟨1, fun x => [ren σ1 (slV x)], ⟨none, 0, []⟩⟩ : El (SlOf P2)))
    (by
      show PtW w v ls.length (ls.flatMap fun x => [ren σ1 (slV x)])
      rw [hlen, hfm]
      exact h.1)
    (by rw [hlen]; exact hl) (cells := ls.flatMap (eSl P2).enc) (by
      show ls.flatMap (fun x => [ren σ1 (slV x)]) = (ls.flatMap fun x => [slV x]).map (ren σ1)
      rw [List.map_flatMap]
      rfl)
    (by
      intro u hu
      obtain ⟨x, hx, hu⟩ := List.mem_flatMap.1 hu
      cases List.mem_singleton.1 hu
      exact s1 x hx) (el' := eSl P2) rfl (fun _ => rfl)
  exact ⟨σ2, H2, a, c, ls, r2, n2, x1.trans x2, e2, s2, ⟨i2, fun x hx => (i1 x hx).mono x2.mle⟩, e1⟩
end
end Go.Proofs.YtibeinbfhhoeiaaGreatDoor.Ab

namespace Go.Proofs.YtibeinbfhhoeiaaGreatDoor.Ab
open Go Go.Proofs
noncomputable section
def tt : TT := [
  (1, ⟨.func, 1, 8, false, [.nilFunc]⟩),
  (2, ⟨(.int .i64), 1, 8, false, [(.int .i64 0)]⟩),
  (3, ⟨(.int .i64), 1, 8, false, [(.int .i64 0)]⟩),
  (4, ⟨.bool, 1, 1, false, [(.bool false)]⟩),
  (5, ⟨(.int .u8), 1, 1, false, [(.int .u8 0)]⟩),
  (6, ⟨(.int .u8), 1, 1, false, [(.int .u8 0)]⟩),
  (7, ⟨(.struct [(0, 2), (1, 3), (2, 4), (3, 6)]), 4, 24, true, [(.int .i64 0), (.int .i64 0), (.bool false), (.int .u8 0)]⟩),
  (8, ⟨(.struct [(0, 2), (1, 3), (2, 4), (3, 6)]), 4, 24, true, [(.int .i64 0), (.int .i64 0), (.bool false), (.int .u8 0)]⟩),
  (9, ⟨.str, 1, 16, false, [(.string ⟨⟨[]⟩⟩)]⟩),
  (10, ⟨.str, 1, 16, false, [(.string ⟨⟨[]⟩⟩)]⟩),
  (11, ⟨.str, 1, 16, false, [(.string ⟨⟨[]⟩⟩)]⟩),
  (12, ⟨(.int .u64), 1, 8, false, [(.int .u64 0)]⟩),
  (13, ⟨.other, 2, 24, true, [(.string ⟨⟨[]⟩⟩), (.int .u64 0)]⟩),
  (14, ⟨.other, 2, 24, true, [(.string ⟨⟨[]⟩⟩), (.int .u64 0)]⟩),
  (15, ⟨(.ptr 263), 1, 8, false, [(.pointer none)]⟩),
  (16, ⟨(.ptr 266), 1, 8, false, [(.pointer none)]⟩),
  (17, ⟨(.ptr 273), 1, 8, false, [(.pointer none)]⟩),
  (18, ⟨.other, 1, 8, true, [(.pointer none)]⟩),
  (19, ⟨.other, 1, 8, true, [(.pointer none)]⟩),
  (20, ⟨.iface, 1, 16, false, [.nilIface]⟩),
  (21, ⟨(.int .i32), 1, 4, false, [(.int .i32 0)]⟩),
  (22, ⟨(.slice 9), 1, 24, false, [(.slice none 0 0)]⟩),
  (23, ⟨(.slice 53), 1, 24, false, [(.slice none 0 0)]⟩),
  (24, ⟨(.struct [(0, 22), (1, 22), (2, 23)]), 3, 72, true, [(.slice none 0 0), (.slice none 0 0), (.slice none 0 0)]⟩),
  (25, ⟨(.struct [(0, 22), (1, 22), (2, 23)]), 3, 72, true, [(.slice none 0 0), (.slice none 0 0), (.slice none 0 0)]⟩),
  (26, ⟨(.slice 54), 1, 24, false, [(.slice none 0 0)]⟩),
  (27, ⟨(.slice 4), 1, 24, false, [(.slice none 0 0)]⟩),
  (28, ⟨(.struct [(0, 26), (1, 27)]), 2, 48, true, [(.slice none 0 0), (.slice none 0 0)]⟩),
  (29, ⟨(.struct [(0, 26), (1, 27)]), 2, 48, true, [(.slice none 0 0), (.slice none 0 0)]⟩),
  (30, ⟨(.slice 77), 1, 24, false, [(.slice none 0 0)]⟩),
  (31, ⟨(.struct [(0, 29), (2, 30)]), 3, 72, true, [(.slice none 0 0), (.slice none 0 0), (.slice none 0 0)]⟩),
  (32, ⟨(.struct [(0, 29), (2, 30)]), 3, 72, true, [(.slice none 0 0), (.slice none 0 0), (.slice none 0 0)]⟩),
  (33, ⟨(.struct [(0, 3), (1, 3), (2, 3), (3, 3), (4, 3)]), 5, 40, true, [(.int .i64 0), (.int .i64 0), (.int .i64 0), (.int .i64 0), (.int .i64 0)]⟩),
  (34, ⟨(.struct [(0, 3), (1, 3), (2, 3), (3, 3), (4, 3)]), 5, 40, true, [(.int .i64 0), (.int .i64 0), (.int .i64 0), (.int .i64 0), (.int .i64 0)]⟩),
  (35, ⟨.func, 1, 8, false, [.nilFunc]⟩),
  (36, ⟨.func, 1, 8, false, [.nilFunc]⟩),
  (37, ⟨.func, 1, 8, false, [.nilFunc]⟩),
  (38, ⟨.func, 1, 8, false, [.nilFunc]⟩),
  (39, ⟨(.int .i64), 1, 8, false, [(.int .i64 0)]⟩),
  (41, ⟨.func, 1, 8, false, [.nilFunc]⟩),
  (43, ⟨.func, 1, 8, false, [.nilFunc]⟩),
  (44, ⟨.func, 1, 8, false, [.nilFunc]⟩),
  (45, ⟨.func, 1, 8, false, [.nilFunc]⟩),
  (46, ⟨.func, 1, 8, false, [.nilFunc]⟩),
  (47, ⟨.func, 1, 8, false, [.nilFunc]⟩),
  (48, ⟨(.array 5 3), 5, 40, true, [(.int .i64 0), (.int .i64 0), (.int .i64 0), (.int .i64 0), (.int .i64 0)]⟩),
  (49, ⟨(.array 5 9), 5, 80, true, [(.string ⟨⟨[]⟩⟩), (.string ⟨⟨[]⟩⟩), (.string ⟨⟨[]⟩⟩), (.string ⟨⟨[]⟩⟩), (.string ⟨⟨[]⟩⟩)]⟩),
  (50, ⟨.func, 1, 8, false, [.nilFunc]⟩),
  (51, ⟨(.slice 3), 1, 24, false, [(.slice none 0 0)]⟩),
  (52, ⟨(.struct [(0, 3), (1, 51)]), 2, 32, true, [(.int .i64 0), (.slice none 0 0)]⟩),
  (53, ⟨(.struct [(0, 3), (1, 51)]), 2, 32, true, [(.int .i64 0), (.slice none 0 0)]⟩),
  (54, ⟨(.slice 69), 1, 24, false, [(.slice none 0 0)]⟩),
  (55, ⟨(.struct [(0, 39), (1, 3)]), 2, 16, true, [(.int .i64 0), (.int .i64 0)]⟩),
  (56, ⟨(.struct [(0, 39), (1, 3)]), 2, 16, true, [(.int .i64 0), (.int .i64 0)]⟩),
  (58, ⟨.func, 1, 8, false, [.nilFunc]⟩),
  (59, ⟨(.slice 126), 1, 24, false, [(.slice none 0 0)]⟩),
  (60, ⟨(.struct [(0, 25), (3, 59), (4, 32)]), 7, 168, true, [(.slice none 0 0), (.slice none 0 0), (.slice none 0 0), (.slice none 0 0), (.slice none 0 0), (.slice none 0 0), (.slice none 0 0)]⟩),
  (61, ⟨(.struct [(0, 25), (3, 59), (4, 32)]), 7, 168, true, [(.slice none 0 0), (.slice none 0 0), (.slice none 0 0), (.slice none 0 0), (.slice none 0 0), (.slice none 0 0), (.slice none 0 0)]⟩),
  (63, ⟨.func, 1, 8, false, [.nilFunc]⟩),
  (64, ⟨.func, 1, 8, false, [.nilFunc]⟩),
  (65, ⟨.func, 1, 8, false, [.nilFunc]⟩),
  (66, ⟨.func, 1, 8, false, [.nilFunc]⟩),
  (67, ⟨.func, 1, 8, false, [.nilFunc]⟩),
  (68, ⟨(.struct [(0, 3), (1, 3)]), 2, 16, true, [(.int .i64 0), (.int .i64 0)]⟩),
  (69, ⟨(.struct [(0, 3), (1, 3)]), 2, 16, true, [(.int .i64 0), (.int .i64 0)]⟩),
  (71, ⟨.func, 1, 8, false, [.nilFunc]⟩),
  (72, ⟨.func, 1, 8, false, [.nilFunc]⟩),
  (73, ⟨.func, 1, 8, false, [.nilFunc]⟩),
  (74, ⟨.func, 1, 8, false, [.nilFunc]⟩),
  (75, ⟨.func, 1, 8, false, [.nilFunc]⟩),
  (76, ⟨(.struct [(0, 3), (1, 3)]), 2, 16, true, [(.int .i64 0), (.int .i64 0)]⟩),
  (77, ⟨(.struct [(0, 3), (1, 3)]), 2, 16, true, [(.int .i64 0), (.int .i64 0)]⟩),
  (78, ⟨.func, 1, 8, false, [.nilFunc]⟩),
  (79, ⟨.func, 1, 8, false, [.nilFunc]⟩),
  (80, ⟨.func, 1, 8, false, [.nilFunc]⟩),
  (82, ⟨(.slice 90), 1, 24, false, [(.slice none 0 0)]⟩),
  (84, ⟨.func, 1, 8, false, [.nilFunc]⟩),
  (85, ⟨.func, 1, 8, false, [.nilFunc]⟩),
  (86, ⟨(.slice 92), 1, 24, false, [(.slice none 0 0)]⟩),
  (88, ⟨.func, 1, 8, false, [.nilFunc]⟩),
  (89, ⟨(.struct [(0, 3), (1, 9), (2, 3)]), 3, 32, true, [(.int .i64 0), (.string ⟨⟨[]⟩⟩), (.int .i64 0)]⟩),
  (90, ⟨(.struct [(0, 3), (1, 9), (2, 3)]), 3, 32, true, [(.int .i64 0), (.string ⟨⟨[]⟩⟩), (.int .i64 0)]⟩),
  (91, ⟨(.struct [(0, 90), (3, 82)]), 4, 56, true, [(.int .i64 0), (.string ⟨⟨[]⟩⟩), (.int .i64 0), (.slice none 0 0)]⟩),
  (92, ⟨(.struct [(0, 90), (3, 82)]), 4, 56, true, [(.int .i64 0), (.string ⟨⟨[]⟩⟩), (.int .i64 0), (.slice none 0 0)]⟩),
  (93, ⟨.func, 1, 8, false, [.nilFunc]⟩),
  (94, ⟨.func, 1, 8, false, [.nilFunc]⟩),
  (95, ⟨.func, 1, 8, false, [.nilFunc]⟩),
  (97, ⟨.func, 1, 8, false, [.nilFunc]⟩),
  (98, ⟨.func, 1, 8, false, [.nilFunc]⟩),
  (99, ⟨.func, 1, 8, false, [.nilFunc]⟩),
  (100, ⟨.func, 1, 8, false, [.nilFunc]⟩),
  (101, ⟨(.chan 4), 1, 8, false, [(.chan none)]⟩),
  (102, ⟨.func, 1, 8, false, [.nilFunc]⟩),
  (103, ⟨(.chan 69), 1, 8, false, [(.chan none)]⟩),
  (104, ⟨.func, 1, 8, false, [.nilFunc]⟩),
  (105, ⟨.func, 1, 8, false, [.nilFunc]⟩),
  (106, ⟨(.int .u64), 1, 8, false, [(.int .u64 0)]⟩),
  (107, ⟨.func, 1, 8, false, [.nilFunc]⟩),
  (108, ⟨.func, 1, 8, false, [.nilFunc]⟩),
  (109, ⟨.func, 1, 8, false, [.nilFunc]⟩),
  (110, ⟨(.struct [(0, 3)]), 1, 8, true, [(.int .i64 0)]⟩),
  (111, ⟨(.struct [(0, 3)]), 1, 8, true, [(.int .i64 0)]⟩),
  (113, ⟨.func, 1, 8, false, [.nilFunc]⟩),
  (115, ⟨.func, 1, 8, false, [.nilFunc]⟩),
  (116, ⟨(.ptr 118), 1, 8, false, [(.pointer none)]⟩),
  (117, ⟨(.struct [(0, 82), (1, 3), (2, 86)]), 3, 56, true, [(.slice none 0 0), (.int .i64 0), (.slice none 0 0)]⟩),
  (118, ⟨(.struct [(0, 82), (1, 3), (2, 86)]), 3, 56, true, [(.slice none 0 0), (.int .i64 0), (.slice none 0 0)]⟩),
  (119, ⟨.func, 1, 8, false, [.nilFunc]⟩),
  (120, ⟨.func, 1, 8, false, [.nilFunc]⟩),
  (121, ⟨.func, 1, 8, false, [.nilFunc]⟩),
  (122, ⟨.func, 1, 8, false, [.nilFunc]⟩),
  (123, ⟨.func, 1, 8, false, [.nilFunc]⟩),
  (124, ⟨.func, 1, 8, false, [.nilFunc]⟩),
  (125, ⟨(.struct [(0, 3), (1, 3)]), 2, 16, true, [(.int .i64 0), (.int .i64 0)]⟩),
  (126, ⟨(.struct [(0, 3), (1, 3)]), 2, 16, true, [(.int .i64 0), (.int .i64 0)]⟩),
  (127, ⟨.func, 1, 8, false, [.nilFunc]⟩),
  (128, ⟨.func, 1, 8, false, [.nilFunc]⟩),
  (129, ⟨.func, 1, 8, false, [.nilFunc]⟩),
  (130, ⟨.func, 1, 8, false, [.nilFunc]⟩),
  (131, ⟨(.map 3 29), 1, 8, false, [(.map none)]⟩),
  (133, ⟨.func, 1, 8, false, [.nilFunc]⟩),
  (135, ⟨.func, 1, 8, false, [.nilFunc]⟩),
  (136, ⟨.func, 1, 8, false, [.nilFunc]⟩),
  (137, ⟨.func, 1, 8, false, [.nilFunc]⟩),
  (138, ⟨.func, 1, 8, false, [.nilFunc]⟩),
  (139, ⟨(.chan 4), 1, 8, false, [(.chan none)]⟩),
  (140, ⟨(.chan 69), 1, 8, false, [(.chan none)]⟩),
  (141, ⟨.func, 1, 8, false, [.nilFunc]⟩),
  (142, ⟨(.slice 5), 1, 24, false, [(.slice none 0 0)]⟩),
  (143, ⟨.func, 1, 8, false, [.nilFunc]⟩),
  (144, ⟨.func, 1, 8, false, [.nilFunc]⟩),
  (145, ⟨.func, 1, 8, false, [.nilFunc]⟩),
  (146, ⟨.func, 1, 8, false, [.nilFunc]⟩),
  (147, ⟨.func, 1, 8, false, [.nilFunc]⟩),
  (148, ⟨.func, 1, 8, false, [.nilFunc]⟩),
  (149, ⟨.func, 1, 8, false, [.nilFunc]⟩),
  (150, ⟨.func, 1, 8, false, [.nilFunc]⟩),
  (152, ⟨.func, 1, 8, false, [.nilFunc]⟩),
  (153, ⟨(.chan 3), 1, 8, false, [(.chan none)]⟩),
  (154, ⟨.func, 1, 8, false, [.nilFunc]⟩),
  (156, ⟨.func, 1, 8, false, [.nilFunc]⟩),
  (157, ⟨.func, 1, 8, false, [.nilFunc]⟩),
  (158, ⟨.func, 1, 8, false, [.nilFunc]⟩),
  (159, ⟨(.array 24 5), 24, 24, true, [(.int .u8 0), (.int .u8 0), (.int .u8 0), (.int .u8 0), (.int .u8 0), (.int .u8 0), (.int .u8 0), (.int .u8 0), (.int .u8 0), (.int .u8 0), (.int .u8 0), (.int .u8 0), (.int .u8 0), (.int .u8 0), (.int .u8 0), (.int .u8 0), (.int .u8 0), (.int .u8 0), (.int .u8 0), (.int .u8 0), (.int .u8 0), (.int .u8 0), (.int .u8 0), (.int .u8 0)]⟩),
  (160, ⟨.func, 1, 8, false, [.nilFunc]⟩),
  (161, ⟨.func, 1, 8, false, [.nilFunc]⟩),
  (163, ⟨.func, 1, 8, false, [.nilFunc]⟩),
  (164, ⟨.func, 1, 8, false, [.nilFunc]⟩),
  (165, ⟨(.slice 27), 1, 24, false, [(.slice none 0 0)]⟩),
  (166, ⟨.func, 1, 8, false, [.nilFunc]⟩),
  (167, ⟨(.chan 126), 1, 8, false, [(.chan none)]⟩),
  (168, ⟨.func, 1, 8, false, [.nilFunc]⟩),
  (169, ⟨(.struct [(0, 26)]), 1, 24, true, [(.slice none 0 0)]⟩),
  (170, ⟨(.struct [(0, 26)]), 1, 24, true, [(.slice none 0 0)]⟩),
  (172, ⟨.func, 1, 8, false, [.nilFunc]⟩),
  (173, ⟨.func, 1, 8, false, [.nilFunc]⟩),
  (174, ⟨.func, 1, 8, false, [.nilFunc]⟩),
  (175, ⟨.func, 1, 8, false, [.nilFunc]⟩),
  (176, ⟨.func, 1, 8, false, [.nilFunc]⟩),
  (177, ⟨(.array 20 106), 20, 160, true, [(.int .u64 0), (.int .u64 0), (.int .u64 0), (.int .u64 0), (.int .u64 0), (.int .u64 0), (.int .u64 0), (.int .u64 0), (.int .u64 0), (.int .u64 0), (.int .u64 0), (.int .u64 0), (.int .u64 0), (.int .u64 0), (.int .u64 0), (.int .u64 0), (.int .u64 0), (.int .u64 0), (.int .u64 0), (.int .u64 0)]⟩),
  (178, ⟨(.int .u32), 1, 4, false, [(.int .u32 0)]⟩),
  (179, ⟨(.array 65 5), 65, 65, true, [(.int .u8 0), (.int .u8 0), (.int .u8 0), (.int .u8 0), (.int .u8 0), (.int .u8 0), (.int .u8 0), (.int .u8 0), (.int .u8 0), (.int .u8 0), (.int .u8 0), (.int .u8 0), (.int .u8 0), (.int .u8 0), (.int .u8 0), (.int .u8 0), (.int .u8 0), (.int .u8 0), (.int .u8 0), (.int .u8 0), (.int .u8 0), (.int .u8 0), (.int .u8 0), (.int .u8 0), (.int .u8 0), (.int .u8 0), (.int .u8 0), (.int .u8 0), (.int .u8 0), (.int .u8 0), (.int .u8 0), (.int .u8 0), (.int .u8 0), (.int .u8 0), (.int .u8 0), (.int .u8 0), (.int .u8 0), (.int .u8 0), (.int .u8 0), (.int .u8 0), (.int .u8 0), (.int .u8 0), (.int .u8 0), (.int .u8 0), (.int .u8 0), (.int .u8 0), (.int .u8 0), (.int .u8 0), (.int .u8 0), (.int .u8 0), (.int .u8 0), (.int .u8 0), (.int .u8 0), (.int .u8 0), (.int .u8 0), (.int .u8 0), (.int .u8 0), (.int .u8 0), (.int .u8 0), (.int .u8 0), (.int .u8 0), (.int .u8 0), (.int .u8 0), (.int .u8 0), (.int .u8 0)]⟩),
  (180, ⟨(.int .u64), 1, 8, false, [(.int .u64 0)]⟩),
  (181, ⟨.func, 1, 8, false, [.nilFunc]⟩),
  (182, ⟨.func, 1, 8, false, [.nilFunc]⟩),
  (183, ⟨.func, 1, 8, false, [.nilFunc]⟩),
  (184, ⟨.func, 1, 8, false, [.nilFunc]⟩),
  (185, ⟨.func, 1, 8, false, [.nilFunc]⟩),
  (186, ⟨(.struct []), 0, 0, true, []⟩),
  (187, ⟨(.struct []), 0, 0, true, []⟩),
  (189, ⟨(.ptr 191), 1, 8, false, [(.pointer none)]⟩),
  (190, ⟨(.struct [(0, 25), (3, 3), (4, 59), (5, 59), (6, 51), (7, 26), (8, 3)]), 9, 184, true, [(.slice none 0 0), (.slice none 0 0), (.slice none 0 0), (.int .i64 0), (.slice none 0 0), (.slice none 0 0), (.slice none 0 0), (.slice none 0 0), (.int .i64 0)]⟩),
  (191, ⟨(.struct [(0, 25), (3, 3), (4, 59), (5, 59), (6, 51), (7, 26), (8, 3)]), 9, 184, true, [(.slice none 0 0), (.slice none 0 0), (.slice none 0 0), (.int .i64 0), (.slice none 0 0), (.slice none 0 0), (.slice none 0 0), (.slice none 0 0), (.int .i64 0)]⟩),
  (192, ⟨.func, 1, 8, false, [.nilFunc]⟩),
  (193, ⟨.func, 1, 8, false, [.nilFunc]⟩),
  (194, ⟨.func, 1, 8, false, [.nilFunc]⟩),
  (195, ⟨(.struct []), 0, 0, true, []⟩),
  (197, ⟨(.ptr 201), 1, 8, false, [(.pointer none)]⟩),
  (198, ⟨(.map 9 3), 1, 8, false, [(.map none)]⟩),
  (199, ⟨(.slice 51), 1, 24, false, [(.slice none 0 0)]⟩),
  (200, ⟨(.struct [(0, 170), (1, 3), (2, 199), (3, 198), (4, 29)]), 6, 112, true, [(.slice none 0 0), (.int .i64 0), (.slice none 0 0), (.map none), (.slice none 0 0), (.slice none 0 0)]⟩),
  (201, ⟨(.struct [(0, 170), (1, 3), (2, 199), (3, 198), (4, 29)]), 6, 112, true, [(.slice none 0 0), (.int .i64 0), (.slice none 0 0), (.map none), (.slice none 0 0), (.slice none 0 0)]⟩),
  (203, ⟨.func, 1, 8, false, [.nilFunc]⟩),
  (204, ⟨.func, 1, 8, false, [.nilFunc]⟩),
  (205, ⟨.func, 1, 8, false, [.nilFunc]⟩),
  (206, ⟨.func, 1, 8, false, [.nilFunc]⟩),
  (207, ⟨(.map 3 3), 1, 8, false, [(.map none)]⟩),
  (209, ⟨.func, 1, 8, false, [.nilFunc]⟩),
  (210, ⟨.func, 1, 8, false, [.nilFunc]⟩),
  (211, ⟨.func, 1, 8, false, [.nilFunc]⟩),
  (212, ⟨.func, 1, 8, false, [.nilFunc]⟩),
  (213, ⟨.func, 1, 8, false, [.nilFunc]⟩),
  (214, ⟨.func, 1, 8, false, [.nilFunc]⟩),
  (215, ⟨.func, 1, 8, false, [.nilFunc]⟩),
  (216, ⟨.func, 1, 8, false, [.nilFunc]⟩),
  (217, ⟨.func, 1, 8, false, [.nilFunc]⟩),
  (218, ⟨.func, 1, 8, false, [.nilFunc]⟩),
  (219, ⟨.func, 1, 8, false, [.nilFunc]⟩),
  (220, ⟨.func, 1, 8, false, [.nilFunc]⟩),
  (221, ⟨.func, 1, 8, false, [.nilFunc]⟩),
  (222, ⟨(.ptr 224), 1, 8, false, [(.pointer none)]⟩),
  (223, ⟨(.struct [(0, 29), (2, 27), (3, 51), (4, 3)]), 5, 104, true, [(.slice none 0 0), (.slice none 0 0), (.slice none 0 0), (.slice none 0 0), (.int .i64 0)]⟩),
  (224, ⟨(.struct [(0, 29), (2, 27), (3, 51), (4, 3)]), 5, 104, true, [(.slice none 0 0), (.slice none 0 0), (.slice none 0 0), (.slice none 0 0), (.int .i64 0)]⟩),
  (225, ⟨(.array 32 5), 32, 32, true, [(.int .u8 0), (.int .u8 0), (.int .u8 0), (.int .u8 0), (.int .u8 0), (.int .u8 0), (.int .u8 0), (.int .u8 0), (.int .u8 0), (.int .u8 0), (.int .u8 0), (.int .u8 0), (.int .u8 0), (.int .u8 0), (.int .u8 0), (.int .u8 0), (.int .u8 0), (.int .u8 0), (.int .u8 0), (.int .u8 0), (.int .u8 0), (.int .u8 0), (.int .u8 0), (.int .u8 0), (.int .u8 0), (.int .u8 0), (.int .u8 0), (.int .u8 0), (.int .u8 0), (.int .u8 0), (.int .u8 0), (.int .u8 0)]⟩),
  (226, ⟨(.array 64 5), 64, 64, true, [(.int .u8 0), (.int .u8 0), (.int .u8 0), (.int .u8 0), (.int .u8 0), (.int .u8 0), (.int .u8 0), (.int .u8 0), (.int .u8 0), (.int .u8 0), (.int .u8 0), (.int .u8 0), (.int .u8 0), (.int .u8 0), (.int .u8 0), (.int .u8 0), (.int .u8 0), (.int .u8 0), (.int .u8 0), (.int .u8 0), (.int .u8 0), (.int .u8 0), (.int .u8 0), (.int .u8 0), (.int .u8 0), (.int .u8 0), (.int .u8 0), (.int .u8 0), (.int .u8 0), (.int .u8 0), (.int .u8 0), (.int .u8 0), (.int .u8 0), (.int .u8 0), (.int .u8 0), (.int .u8 0), (.int .u8 0), (.int .u8 0), (.int .u8 0), (.int .u8 0), (.int .u8 0), (.int .u8 0), (.int .u8 0), (.int .u8 0), (.int .u8 0), (.int .u8 0), (.int .u8 0), (.int .u8 0), (.int .u8 0), (.int .u8 0), (.int .u8 0), (.int .u8 0), (.int .u8 0), (.int .u8 0), (.int .u8 0), (.int .u8 0), (.int .u8 0), (.int .u8 0), (.int .u8 0), (.int .u8 0), (.int .u8 0), (.int .u8 0), (.int .u8 0), (.int .u8 0)]⟩),
  (227, ⟨.func, 1, 8, false, [.nilFunc]⟩),
  (228, ⟨.func, 1, 8, false, [.nilFunc]⟩),
  (229, ⟨.func, 1, 8, false, [.nilFunc]⟩),
  (230, ⟨.func, 1, 8, false, [.nilFunc]⟩),
  (231, ⟨.func, 1, 8, false, [.nilFunc]⟩),
  (232, ⟨.func, 1, 8, false, [.nilFunc]⟩),
  (233, ⟨.func, 1, 8, false, [.nilFunc]⟩),
  (234, ⟨.func, 1, 8, false, [.nilFunc]⟩),
  (235, ⟨(.ptr 237), 1, 8, false, [(.pointer none)]⟩),
  (236, ⟨(.struct [(0, 235), (1, 142)]), 2, 32, true, [(.pointer none), (.slice none 0 0)]⟩),
  (237, ⟨(.struct [(0, 235), (1, 142)]), 2, 32, true, [(.pointer none), (.slice none 0 0)]⟩),
  (238, ⟨.iface, 1, 16, false, [.nilIface]⟩),
  (239, ⟨.iface, 1, 16, false, [.nilIface]⟩),
  (241, ⟨.func, 1, 8, false, [.nilFunc]⟩),
  (242, ⟨.func, 1, 8, false, [.nilFunc]⟩),
  (243, ⟨.func, 1, 8, false, [.nilFunc]⟩),
  (244, ⟨(.int .i64), 1, 8, false, [(.int .i64 0)]⟩),
  (246, ⟨.func, 1, 8, false, [.nilFunc]⟩),
  (247, ⟨.func, 1, 8, false, [.nilFunc]⟩),
  (248, ⟨.func, 1, 8, false, [.nilFunc]⟩),
  (249, ⟨.func, 1, 8, false, [.nilFunc]⟩),
  (250, ⟨.func, 1, 8, false, [.nilFunc]⟩),
  (251, ⟨(.ptr 5), 1, 8, false, [(.pointer none)]⟩),
  (252, ⟨(.int .u64), 1, 8, false, [(.int .u64 0)]⟩),
  (253, ⟨.func, 1, 8, false, [.nilFunc]⟩),
  (254, ⟨.func, 1, 8, false, [.nilFunc]⟩),
  (255, ⟨.func, 1, 8, false, [.nilFunc]⟩),
  (256, ⟨(.ptr 3), 1, 8, false, [(.pointer none)]⟩),
  (257, ⟨.func, 1, 8, false, [.nilFunc]⟩),
  (259, ⟨.func, 1, 8, false, [.nilFunc]⟩),
  (260, ⟨(.ptr 252), 1, 8, false, [(.pointer none)]⟩),
  (261, ⟨.func, 1, 8, false, [.nilFunc]⟩),
  (262, ⟨.other, 4, 40, true, [(.pointer none), (.pointer none), (.pointer none), (.string ⟨⟨[]⟩⟩)]⟩),
  (263, ⟨.other, 4, 40, true, [(.pointer none), (.pointer none), (.pointer none), (.string ⟨⟨[]⟩⟩)]⟩),
  (264, ⟨(.array 0 16), 0, 0, true, []⟩),
  (265, ⟨.other, 0, 0, true, []⟩),
  (266, ⟨.other, 0, 0, true, []⟩),
  (267, ⟨(.int .u8), 1, 1, false, [(.int .u8 0)]⟩),
  (268, ⟨(.int .u8), 1, 1, false, [(.int .u8 0)]⟩),
  (269, ⟨.func, 1, 8, false, [.nilFunc]⟩),
  (270, ⟨(.int .i32), 1, 4, false, [(.int .i32 0)]⟩),
  (271, ⟨(.int .i32), 1, 4, false, [(.int .i32 0)]⟩),
  (272, ⟨.other, 11, 48, true, [(.int .u64 0), (.int .u64 0), (.int .u32 0), (.int .u8 0), (.int .u8 0), (.int .u8 0), (.int .u8 0), .nilFunc, (.pointer none), (.int .i32 0), (.int .i32 0)]⟩),
  (273, ⟨.other, 11, 48, true, [(.int .u64 0), (.int .u64 0), (.int .u32 0), (.int .u8 0), (.int .u8 0), (.int .u8 0), (.int .u8 0), .nilFunc, (.pointer none), (.int .i32 0), (.int .i32 0)]⟩)]
theorem tt_ok : TOk Tryz.prog tt := ttB_ok (by kernel_rfl)
theorem follows_ok : Tryz.prog.follows .mixedOrders = true := by kernel_rfl
end
end Go.Proofs.YtibeinbfhhoeiaaGreatDoor.Ab

/- append: the abstract heap's and the model's. append (end), clear. clear, maps, channels made, bytes as a string; all operations on memory in one function. The abstract interpreter: code, calls, deferred calls, regions whose order is drawn. -/
import Derived.Test.YtibeinbfhhoeiaaGreatDoorZA2
import Derived.Conc.LoneCalls
import Derived.Conc.LoneSelectN
namespace Go.Proofs.YtibeinbfhhoeiaaGreatDoor.Ab
open Go
noncomputable section

def isInt : TypeDesc → Bool
  | .int _ => true
  | _ => false

theorem growBy_le (newLen : Nat) : ∀ (r c : Nat), c < newLen → Builtin.growBy newLen r c ≤ 2 * newLen + 192 := by
  intro r
  induction r with
  | zero => intro c h; simp only [Builtin.growBy]; omega
  | succ r ih =>
    intro c h
    simp only [Builtin.growBy]
    rw [if_neg (by omega)]
    by_cases h2 : c + (c + 768) / 4 < newLen
    · exact ih _ h2
    · cases r with
      | zero => simp only [Builtin.growBy]; omega
      | succ r => simp only [Builtin.growBy]; rw [if_pos (by omega)]; omega

theorem nextslicecap_le {newLen oldCap : Nat} (h : oldCap < newLen) : Builtin.nextslicecap newLen oldCap ≤ 2 * newLen + 192 := by
  unfold Builtin.nextslicecap
  split
  · omega
  · split
    · omega
    · exact growBy_le _ _ _ h

theorem run_append_fit {P : Program} {w w' : World} {ats : Array TypeId} {ty st xt elem : TypeId} {d : TypeDesc} {size sLen sCap n : Nat} {base : Option Addr} {x : Value} {new : Array Value}
    (h0 : ats[0]? = some st) (h1 : ats[1]? = some xt) (hu : xunder P st = some (.slice elem)) (hd : xunder P xt = some d) (hi : isInt d = false) (hs : xsize P elem = some size)
    (hn : (Builtin.lenOf x).run P w = .ok n w) (hnew : (Builtin.firstCells size n x).run P w = .ok new w) (hfit : sLen + n ≤ sCap)
    (hst : ∀ a, base = some a → (storeCells (a.add (sLen * size)) new.toList).run P w = .ok () w') (hnone : base = none → w' = w) :
    (Builtin.append_ ats ty #[.slice base sLen sCap, x]).run P w = .ok (.slice base (sLen + n) sCap) w' := by
  have key : (Builtin.append_ ats ty #[.slice base sLen sCap, x]).run P w = ((do
      let new ← Builtin.firstCells size n x
      if let some a := base then storeCells (a.add (sLen * size)) new.toList
      pure (.slice base (sLen + n) sCap)) : Sem Value).run P w := by
    unfold Builtin.append_
    simp only [h0, h1, show (#[Value.slice base sLen sCap, x] : Array Value)[0]? = some (Value.slice base sLen sCap) from rfl,
      show (#[Value.slice base sLen sCap, x] : Array Value)[1]? = some x from rfl, Sem.run_bind, is_underlying hu w, is_underlying hd w, Result.andThen_ok, is_sizeOf hs w, Sem.run_pure]
    cases d with
    | int k => cases hi
    | _ =>
      simp only [Bool.false_eq_true, if_false, Sem.run_bind, hn, Result.andThen_ok]
      rw [if_pos hfit]
      simp only [Bool.not_false, if_true, Sem.run_bind]
      cases base <;> rfl
  rw [key]
  cases base with
  | none =>
    rw [hnone rfl]
    simp [hnew]
  | some a =>
    simp [hnew, hst a rfl]

theorem run_append_grow {P : Program} {w : World} {ats : Array TypeId} {ty st xt elem : TypeId} {d : TypeDesc} {size bytes sLen sCap n : Nat} {base : Option Addr} {x z : Value} {old new : Array Value}
    (h0 : ats[0]? = some st) (h1 : ats[1]? = some xt) (hu : xunder P st = some (.slice elem)) (hd : xunder P xt = some d) (hi : isInt d = false) (hs : xsize P elem = some size)
    (hb : xbytes P elem = some bytes) (hz : xzero P elem = some z)
    (hn : (Builtin.lenOf x).run P w = .ok n w) (hnew : ∀ w1 : World, w1.heap = w.heap → (Builtin.firstCells size n x).run P w1 = .ok new w1)
    (hold : ∀ w1 : World, w1.heap = w.heap → (Builtin.firstCells size sLen (.slice base sLen sCap)).run P w1 = .ok old w1)
    (hgrow : sCap < sLen + n) (h30 : sLen + n ≤ 1073741824) (h12 : bytes ≤ 4096) :
    ∃ newCap, sLen + n ≤ newCap ∧ (Builtin.append_ ats ty #[.slice base sLen sCap, x]).run P w =
      .ok (.slice (some ⟨w.heap.size, 0, none⟩) (sLen + n) newCap)
        { w with drawn := w.drawn + 1, heap := w.heap.push (.cells (old ++ new ++ (zerosL z.cells.toList (newCap - (sLen + n))).toArray) elem) } := by
  obtain ⟨i, _, hib, iti⟩ := is_bytes hb
  obtain ⟨iz, _⟩ := is_zero hz
  refine ⟨(sLen + n) + w.tape w.drawn (.appendCap (sLen + n) sCap elem) % (2 ^ 63 - (sLen + n)), Nat.le_add_right _ _, ?_⟩
  have hnc := nextslicecap_le hgrow
  have hcapb : ¬ (Builtin.nextslicecap (sLen + n) sCap * i.bytes > 2 ^ 48) := by
    rw [hib]
    have : Builtin.nextslicecap (sLen + n) sCap * bytes ≤ (2 * (sLen + n) + 192) * 4096 := Nat.mul_le_mul hnc h12
    omega
  have hmax : ¬ (((sLen + n : Nat) : Int) > IntKind.i64.max ∧ (False ∨ i.bytes = 0)) := by
    rw [IntKind.max_i64]; omega
  have hdr := hnew { w with drawn := w.drawn + 1 } rfl
  have hol := hold { w with drawn := w.drawn + 1 } rfl
  have hzc : ∀ k, Builtin.zeroCells z.cells k = (zerosL z.cells.toList k).toArray := fun k => zeros_model z.cells k z.cells.size rfl
  have key : (Builtin.append_ ats ty #[.slice base sLen sCap, x]).run P w = ((do
      let newCap ← choose (.appendCap (sLen + n) sCap elem)
      askRoom (newCap * (← typeInfo elem).bytes)
      let old ← Builtin.firstCells size sLen (.slice base sLen sCap)
      let new ← Builtin.firstCells size n x
      let rest := Builtin.zeroCells (← zeroValue elem).cells (newCap - (sLen + n))
      pure (.slice (some (← newRow elem (old ++ new ++ rest))) (sLen + n) newCap)) : Sem Value).run P w := by
    unfold Builtin.append_
    simp only [h0, h1, show (#[Value.slice base sLen sCap, x] : Array Value)[0]? = some (Value.slice base sLen sCap) from rfl,
      show (#[Value.slice base sLen sCap, x] : Array Value)[1]? = some x from rfl, Sem.run_bind, is_underlying hu w, is_underlying hd w, Result.andThen_ok, is_sizeOf hs w, Sem.run_pure]
    cases d with
    | int k => cases hi
    | _ =>
      simp only [Bool.false_eq_true, if_false, Sem.run_bind, hn, Result.andThen_ok]
      rw [if_neg (by omega)]
      simp only [Sem.run_bind, iti w, Result.andThen_ok, hmax, if_false, hcapb, Bool.not_false, if_true]
      rfl
  rw [key]
  have hf : (Question.appendCap (sLen + n) sCap elem).forced = false := rfl
  simp only [Sem.run_bind, run_choose, hf, Bool.false_eq_true, if_false, Result.andThen_ok, iti _, run_askRoom]
  rw [show (Question.appendCap (sLen + n) sCap elem).cut (w.tape w.drawn (Question.appendCap (sLen + n) sCap elem)) =
    (sLen + n) + w.tape w.drawn (.appendCap (sLen + n) sCap elem) % (2 ^ 63 - (sLen + n)) from rfl]
  rw [hol]
  simp only [Result.andThen_ok, hdr, iz _, Sem.run_pure, run_newRow, hzc]


/-- What is appended: how many elements, their cells. -/
def xnew (H : Heap) (size : Nat) (x : Value) : Option (Nat × List Value) := match x with
  | .slice none n _ => match Nat.beq n 0 with
    | true => some (0, [])
    | false => none
  | .slice (some a) n _ => match Nat.beq n 0 with
    | true => some (0, [])
    | false => match xcells H a (n * size) with
      | some l => some (n, l)
      | none => none
  | .string s => some (s.size, s.data.toList.map fun b => .int .u8 b.toNat)
  | _ => none

theorem run_xnew {P : Program} {σ : Sig} {H : Heap} {w : World} (hR : Rep P σ H w) {size n : Nat} {x : Value} {l : List Value} (h : xnew H size x = some (n, l)) (hs1 : (∀ s, x = .string s → size = 1)) :
    (∀ w1 : World, (Builtin.lenOf (ren σ x)).run P w1 = .ok n w1) ∧ (∀ w1 : World, w1.heap = w.heap → (Builtin.firstCells size n (ren σ x)).run P w1 = .ok ⟨l.map (ren σ)⟩ w1) ∧
      l.length = n * size ∧ (∀ v ∈ l, Stab H.next v) := by
  unfold xnew at h
  split at h
  · split at h
    · rename_i e
      have e := Nat.eq_of_beq_eq_true e
      simp only [Option.some.injEq, Prod.mk.injEq] at h
      obtain ⟨rfl, rfl⟩ := h
      subst e
      exact ⟨fun w1 => by simp [ren, Builtin.lenOf], fun w1 _ => by simp [ren, Builtin.firstCells], by simp, fun v hv => by cases hv⟩
    · simp at h
  · split at h
    · rename_i e
      have e := Nat.eq_of_beq_eq_true e
      simp only [Option.some.injEq, Prod.mk.injEq] at h
      obtain ⟨rfl, rfl⟩ := h
      subst e
      exact ⟨fun w1 => by simp [ren, Builtin.lenOf], fun w1 _ => by simp [ren, Builtin.firstCells, loadCells, loadCellsFrom], by simp, fun v hv => by cases hv⟩
    · split at h
      · rename_i hl
        simp only [Option.some.injEq, Prod.mk.injEq] at h
        obtain ⟨rfl, rfl⟩ := h
        obtain ⟨h1, _, _, h2⟩ := xcells_spec hR hl
        exact ⟨fun w1 => by simp [ren, Builtin.lenOf], fun w1 hw => by simpa [ren, Builtin.firstCells] using run_loadCells (hR.of_heap hw) hl, h1, h2⟩
      · simp at h
  · rename_i s
    simp only [Option.some.injEq, Prod.mk.injEq] at h
    obtain ⟨rfl, rfl⟩ := h
    have hsz := hs1 s rfl
    refine ⟨fun w1 => by simp [ren, Builtin.lenOf], fun w1 _ => ?_, by rw [hsz, List.length_map, Nat.mul_one]; rfl, fun v hv => ?_⟩
    · have he : s.extract 0 s.size = s := by
        apply ByteArray.ext
        simp
      simp only [ren, Builtin.firstCells, he]
      have : (s.data.map fun b => Value.int .u8 b.toNat) = ⟨(s.data.toList.map fun b => Value.int .u8 b.toNat).map (ren σ)⟩ := by
        apply Array.toList_inj.1
        simp [ren]
      rw [this]; rfl
    · obtain ⟨b, _, rfl⟩ := List.mem_map.1 hv
      exact Stab.clo rfl
  · simp at h

def isStr : Value → Bool
  | .string _ => true
  | _ => false

def xgrow (H : Heap) (elem : TypeId) (k : Nat) (cells : List Value) : Value × Heap := (.slice (some ⟨H.next, 0, none⟩) k OPEN, H.alloc (.row cells elem .opn))

def xappendAt (H : Heap) (elem : TypeId) (size : Nat) (s : Value) (n : Nat) (new : List Value) : Option (Value × Heap) :=
  match s with
  | .slice none sLen sCap => match Nat.ble (sLen + n) sCap, Nat.beq sLen 0 with
    | true, _ => match new with
      | [] => some (.slice none (sLen + n) sCap, H)
      | _ :: _ => none
    | false, true => some (xgrow H elem n new)
    | false, false => none
  | .slice (some a) sLen sCap => match Nat.blt sCap OPEN with
    | true => match Nat.ble (sLen + n) sCap with
      | true => match new, flatL new with
        | [], _ => some (.slice (some a) (sLen + n) sCap, H)
        | _ :: _, true => match xput H (a.add (sLen * size)) new with
          | some H' => some (.slice (some a) (sLen + n) sCap, H')
          | none => none
        | _ :: _, false => none
      | false => match xcells H a (sLen * size) with
        | some old => some (xgrow H elem (sLen + n) (old ++ new))
        | none => none
    | false => match a.spot, H.get a.block, xcells H a (sLen * size) with
      | none, some (.row cells elem' .opn), some old => match Nat.beq elem elem', Nat.beq a.off ((sCap - OPEN) * size), Nat.ble (a.off + sLen * size) cells.length, flatL new with
        | true, true, true, true => match Nat.beq n 0 with
          | true => some (s, H)
          | false => some (xgrow (H.set a.block (.row [] elem .dead)) elem (sLen + n) (old ++ new))
        | _, _, _, _ => none
      | _, _, _ => none
  | _ => none

def sliceLen : Value → Nat
  | .slice _ n _ => n
  | _ => 0

def xappend (P : Program) (H : Heap) (ats : Array TypeId) (args : List Value) : Option (Value × Heap) := match ats[0]?, ats[1]?, args with
  | some st, some xt, [s, x] => match xunder P st, xunder P xt with
    | some (.slice elem), some d => match isInt d, xsize P elem, xbytes P elem, xzero P elem with
      | false, some size, some bytes, some z => match Nat.ble 1 size, Nat.ble bytes 4096, Nat.beq z.cells.size size, isStr x && !(Nat.beq size 1), xnew H size x with
        | true, true, true, false, some (n, new) => match Nat.ble (sliceLen s + n) 1073741824 with
          | true => xappendAt H elem size s n new
          | false => none
        | _, _, _, _, _ => none
      | _, _, _, _ => none
    | _, _ => none
  | _, _, _ => none


theorem live_of_own {a : AObj} (ha : a.own = true) : a.live = true := by
  cases a with
  | row cells elem kind => cases kind <;> first | rfl | cases ha
  | map es => rfl
  | chan cap buf => rfl

/-- A row that was appended to is given up, and what is behind it lies in its block. -/
theorem Rep.claim {P : Program} {σ : Sig} {H : Heap} {w w' : World} (h : Rep P σ H w) {id : Nat} {o o' : AObj} {p : Place} {elem : TypeId} (ho : H.get id = some o) (hown : o.own = true)
    (hp : p.blk = (σ id).blk) (hs : StabObj (H.next + 1) o') (hown' : o'.own = true) (hb : ∀ b, b ≠ (σ id).blk → w'.heap[b]? = w.heap[b]?) (hsz : w'.heap.size = w.heap.size)
    (h1 : w'.os = w.os) (h2 : w'.tape = w.tape) (h3 : w'.output = w.output) (hr : ObjRep P (upd σ H.next p) w' H.next o') :
    Rep P (upd σ H.next p) ((H.set id (.row [] elem .dead)).alloc o') w' ∧ Stp σ H w (upd σ H.next p) ((H.set id (.row [] elem .dead)).alloc o') w' := by
  have hidlt := h.lt _ _ ho
  have hinv : ∀ i a, ((H.set id (.row [] elem .dead)).alloc o').get i = some a →
      (i = H.next ∧ a = o') ∨ (i ≠ H.next ∧ i = id ∧ a = .row [] elem .dead) ∨ (i ≠ H.next ∧ i ≠ id ∧ H.get i = some a) := by
    intro i a hi
    by_cases e : i = H.next
    · subst e
      rw [show H.next = (H.set id (.row [] elem .dead)).next from rfl, Heap.get_alloc_same] at hi
      exact .inl ⟨rfl, (Option.some.inj hi).symm⟩
    · rw [Heap.get_alloc_ne _ _ (show (H.set id (.row [] elem .dead)).next ≠ i from Ne.symm e)] at hi
      by_cases e2 : i = id
      · subst e2; rw [Heap.get_set_same] at hi; exact .inr (.inl ⟨e, rfl, (Option.some.inj hi).symm⟩)
      · rw [Heap.get_set_ne _ _ (Ne.symm e2)] at hi; exact .inr (.inr ⟨e, e2, hi⟩)
  refine ⟨⟨?_, ?_, ?_, ?_, (h.glob.sig fun i hi => upd_below i hi).mono (Nat.le_succ _)⟩, ⟨fun i hi => upd_below i hi, Nat.le_succ _, h1, h2, h3, Nat.le_of_eq hsz.symm, ?_, ?_, ?_⟩⟩
  · intro i a hi
    rcases hinv i a hi with ⟨rfl, rfl⟩ | ⟨_, rfl, rfl⟩ | ⟨hn, hne, hi⟩
    · exact hr
    · exact .inl rfl
    · have hlt := h.lt _ _ hi
      refine ObjRep.of_sig (n := H.next) (σ := σ) ?_ (fun i hi => upd_below i hi) hlt (h.stab _ _ hi)
      by_cases hl : a.live = true
      · exact (h.obj i a hi).of_heap (hb _ (h.apart i id a o hne hi ho hl hown))
      · cases a with
        | row cells elem kind => cases kind <;> first | exact absurd rfl hl | exact .inl rfl
        | map es => exact absurd rfl hl
        | chan cap buf => exact absurd rfl hl
  · intro i a hi
    rcases hinv i a hi with ⟨rfl, _⟩ | ⟨_, rfl, _⟩ | ⟨_, _, hi⟩
    · exact Nat.lt_succ_self _
    · exact Nat.lt_succ_of_lt hidlt
    · exact Nat.lt_succ_of_lt (h.lt _ _ hi)
  · intro i j oi oj hij hi hj hli hoj
    rcases hinv i oi hi with ⟨ei, _⟩ | ⟨_, _, ei⟩ | ⟨hni, hni2, hi2⟩
    · rcases hinv j oj hj with ⟨ej, _⟩ | ⟨_, _, ej⟩ | ⟨hnj, hnj2, hj2⟩
      · exact absurd (ei.trans ej.symm) hij
      · rw [ej] at hoj; cases hoj
      · rw [ei, upd_same, upd_ne _ _ hnj, hp]
        exact h.apart id j o oj (Ne.symm hnj2) ho hj2 (live_of_own hown) hoj
    · rw [ei] at hli; cases hli
    · rcases hinv j oj hj with ⟨ej, _⟩ | ⟨_, _, ej⟩ | ⟨hnj, hnj2, hj2⟩
      · rw [ej, upd_same, upd_ne _ _ hni, hp]
        exact h.apart i id oi o hni2 hi2 ho hli hown
      · rw [ej] at hoj; cases hoj
      · rw [upd_ne _ _ hni, upd_ne _ _ hnj]
        exact h.apart i j oi oj hij hi2 hj2 hli hoj
  · intro i a hi
    rcases hinv i a hi with ⟨_, rfl⟩ | ⟨_, _, rfl⟩ | ⟨_, _, hi⟩
    · exact hs
    · intro v hv; cases hv
    · exact (h.stab _ _ hi).mono (Nat.le_succ _)
  · intro b _ hn
    exact hb b (Ne.symm (hn id o ho hown))
  · intro i a hi ha
    rcases hinv i a hi with ⟨rfl, _⟩ | ⟨_, _, rfl⟩ | ⟨hn, _, hi⟩
    · exact .inl ⟨id, o, ho, hown, by rw [upd_same, hp]⟩
    · cases ha
    · exact .inl ⟨i, a, hi, ha, by rw [upd_ne _ _ hn]⟩
  · intro i a hi ha
    rcases hinv i a hi with ⟨rfl, _⟩ | ⟨_, _, rfl⟩ | ⟨hn, _, hi⟩
    · exact .inl ⟨id, o, ho, live_of_own hown, by rw [upd_same, hp]⟩
    · cases ha
    · exact .inl ⟨i, a, hi, ha, by rw [upd_ne _ _ hn]⟩

theorem Rep.kill {P : Program} {σ : Sig} {H : Heap} {w : World} (h : Rep P σ H w) {id : Nat} {o : AObj} {elem : TypeId} (ho : H.get id = some o) :
    Rep P σ (H.set id (.row [] elem .dead)) w ∧ Stp σ H w σ (H.set id (.row [] elem .dead)) w := by
  have hinv : ∀ i a, (H.set id (.row [] elem .dead)).get i = some a → (i = id ∧ a = .row [] elem .dead) ∨ (i ≠ id ∧ H.get i = some a) := by
    intro i a hi
    by_cases e : i = id
    · subst e; rw [Heap.get_set_same] at hi; exact .inl ⟨rfl, (Option.some.inj hi).symm⟩
    · rw [Heap.get_set_ne _ _ (Ne.symm e)] at hi; exact .inr ⟨e, hi⟩
  refine ⟨⟨?_, ?_, ?_, ?_, h.glob⟩, ⟨fun _ _ => rfl, Nat.le_refl _, rfl, rfl, rfl, Nat.le_refl _, fun _ _ _ => rfl, ?_, ?_⟩⟩
  · intro i a hi
    rcases hinv i a hi with ⟨_, rfl⟩ | ⟨_, hi⟩
    · exact .inl rfl
    · exact h.obj i a hi
  · intro i a hi
    rcases hinv i a hi with ⟨rfl, _⟩ | ⟨_, hi⟩
    · exact h.lt _ _ ho
    · exact h.lt _ _ hi
  · intro i j oi oj hij hi hj hli hoj
    rcases hinv i oi hi with ⟨_, ei⟩ | ⟨_, hi2⟩
    · rw [ei] at hli; cases hli
    · rcases hinv j oj hj with ⟨_, ej⟩ | ⟨_, hj2⟩
      · rw [ej] at hoj; cases hoj
      · exact h.apart i j oi oj hij hi2 hj2 hli hoj
  · intro i a hi
    rcases hinv i a hi with ⟨_, rfl⟩ | ⟨_, hi⟩
    · intro v hv; cases hv
    · exact h.stab i a hi
  · intro i a hi ha
    rcases hinv i a hi with ⟨_, rfl⟩ | ⟨_, hi⟩
    · cases ha
    · exact .inl ⟨i, a, hi, ha, rfl⟩
  · intro i a hi ha
    rcases hinv i a hi with ⟨_, rfl⟩ | ⟨_, hi⟩
    · cases ha
    · exact .inl ⟨i, a, hi, ha, rfl⟩

theorem list_array (l : List Value) (σ : Sig) : (⟨l.map (ren σ)⟩ : Array Value).toList = l.map (ren σ) := rfl

/-- What growing comes to, over a heap that may have given up the old row. -/
theorem does_grow {P : Program} {σ : Sig} {H H0 : Heap} {w : World} (hR : Rep P σ H0 w) (hS : Stp σ H w σ H0 w) (hnx : H0.next = H.next) {elem : TypeId} {size k newCap : Nat} {z : Value} {old new : List Value}
    (hs : xsize P elem = some size) (hzs : z.cells.size = size) {m : Sem Value}
    (ho : ∀ v ∈ old ++ new, Stab H.next v) (hl : (old ++ new).length = k * size) (hk : k ≤ newCap)
    (hm : m.run P w = .ok (.slice (some ⟨w.heap.size, 0, none⟩) k newCap)
        { w with drawn := w.drawn + 1, heap := w.heap.push (.cells ((⟨old.map (ren σ)⟩ : Array Value) ++ (⟨new.map (ren σ)⟩ : Array Value) ++ (zerosL z.cells.toList (newCap - k)).toArray) elem) }) :
    Does P σ H w m (xgrow H0 elem k (old ++ new)).1 (xgrow H0 elem k (old ++ new)).2 := by
  have hel : elSize P elem = size := by simp [elSize, hs]
  have hsz : (((⟨old.map (ren σ)⟩ : Array Value) ++ (⟨new.map (ren σ)⟩ : Array Value) ++ (zerosL z.cells.toList (newCap - k)).toArray) : Array Value).size = newCap * size := by
    simp only [Array.size_append, List.size_toArray, List.length_map, zerosL_length, Array.length_toList, hzs]
    rw [List.length_append] at hl
    rw [hl, ← Nat.add_mul, Nat.add_sub_cancel' hk]
  obtain ⟨r1, r2⟩ := hR.drew.newRow (vs := old ++ new) (elem := elem) (kind := .opn) (cap := newCap)
    (c := ((⟨old.map (ren σ)⟩ : Array Value) ++ (⟨new.map (ren σ)⟩ : Array Value) ++ (zerosL z.cells.toList (newCap - k)).toArray)) (by rw [hnx]; exact ho) (fun j v hj => by
      have hjl : j < (old ++ new).length := by
        rcases Nat.lt_or_ge j (old ++ new).length with h | h
        · exact h
        · rw [List.getElem?_eq_none h] at hj; cases hj
      rw [← Array.getElem?_toList]
      simp only [Array.toList_append]
      rw [List.getElem?_append_left (by simpa using hjl), ← List.map_append, List.getElem?_map, hj]; rfl)
    (by rw [hsz, hl]; exact Nat.mul_le_mul_right _ hk) (fun _ => by rw [hel, hsz, hl]; exact ⟨Nat.mul_le_mul_right _ hk, Nat.le_refl _⟩) (fun h => by cases h)
  refine ⟨_, _, ?_, r1, hS.trans (Stp.drew.trans r2), stab_slice (Nat.lt_succ_self _) 0 _ _⟩
  rw [hm]
  simp [xgrow, ren, renAddr, renCap, upd_same]

end
end Go.Proofs.YtibeinbfhhoeiaaGreatDoor.Ab

namespace Go.Proofs.YtibeinbfhhoeiaaGreatDoor.Ab
open Go
noncomputable section

theorem renCap_open (σ : Sig) (id : Nat) : renCap σ id OPEN = (σ id).cap := by
  unfold renCap; rw [if_neg (Nat.lt_irrefl _), Nat.sub_self, Nat.sub_zero]

theorem xappendAt_cases {H : Heap} {elem : TypeId} {size n : Nat} {s : Value} {new : List Value} {r : Value × Heap} (h : xappendAt H elem size s n new = some r) :
    (∃ sLen sCap, s = .slice none sLen sCap) ∨ (∃ a sLen sCap, s = .slice (some a) sLen sCap) := by
  cases s with
  | slice base l c => cases base with
    | none => exact .inl ⟨_, _, rfl⟩
    | some a => exact .inr ⟨_, _, _, rfl⟩
  | _ => simp [xappendAt] at h

theorem does_append {P : Program} {σ : Sig} {H H' : Heap} {w : World} (hR : Rep P σ H w) {ats : Array TypeId} {ty : TypeId} {args : List Value} {v : Value}
    (h : xappend P H ats args = some (v, H')) (hst : ∀ u ∈ args, Stab H.next u) :
    Does P σ H w (Builtin.append_ ats ty ⟨args.map (ren σ)⟩) v H' := by
  unfold xappend at h
  split at h
  · rename_i st xt s x ha0 ha1
    split at h
    · rename_i elem d hu hd
      split at h
      · rename_i size bytes z hi hs hb hz
        split at h
        · rename_i n new g1 g2 g3 g4 hx
          have g1 := Nat.le_of_ble_eq_true g1
          have g2 := Nat.le_of_ble_eq_true g2
          have g3 := Nat.eq_of_beq_eq_true g3
          split at h
          · rename_i g5
            have g5 := Nat.le_of_ble_eq_true g5
            have hstr : ∀ u, x = .string u → size = 1 := by
              intro u hu
              subst hu
              simp only [isStr, Bool.true_and, Bool.not_eq_false'] at g4
              exact Nat.eq_of_beq_eq_true g4
            obtain ⟨x1, x2, x3, x4⟩ := run_xnew hR hx hstr
            obtain ⟨iz, hzc⟩ := is_zero hz
            have hargs : (⟨[s, x].map (ren σ)⟩ : Array Value) = #[ren σ s, ren σ x] := rfl
            rw [hargs]
            rcases xappendAt_cases h with ⟨sLen, sCap, rfl⟩ | ⟨a, sLen, sCap, rfl⟩
            · simp only [xappendAt] at h
              split at h
              · rename_i e1
                have e1 := Nat.le_of_ble_eq_true e1
                split at h
                · simp only [Option.some.injEq, Prod.mk.injEq] at h
                  obtain ⟨rfl, rfl⟩ := h
                  refine Does.same hR ?_ (Stab.clo rfl)
                  simp only [ren]
                  exact run_append_fit ha0 ha1 hu hd hi hs (x1 w) (x2 w rfl) e1 (fun a h => by cases h) (fun _ => rfl)
                · simp at h
              · rename_i e1 e2
                have e2 := Nat.eq_of_beq_eq_true e2
                subst e2
                simp only [Option.some.injEq] at h
                have hgrow : sCap < 0 + n := by
                  rcases Nat.lt_or_ge sCap (0 + n) with hc | hc
                  · exact hc
                  · have := Nat.ble_eq_true_of_le hc; rw [this] at e1; cases e1
                obtain ⟨newCap, hk, hrun⟩ := run_append_grow (P := P) (w := w) (ty := ty) (old := #[]) ha0 ha1 hu hd hi hs hb hz (x1 w) x2
                  (base := none) (sLen := 0) (sCap := sCap) (fun w1 _ => by simp [Builtin.firstCells]) hgrow (by simpa [sliceLen] using g5) g2
                have := does_grow (P := P) (σ := σ) (H := H) (H0 := H) (k := 0 + n) (newCap := newCap) (old := []) (new := new) hR (Stp.refl _ _ _) rfl hs g3 (m := Builtin.append_ ats ty #[ren σ (.slice none 0 sCap), ren σ x])
                  (by simpa using x4) (by simpa using x3) hk (by simp only [ren]; rw [hrun]; simp)
                simp only [List.nil_append, Nat.zero_add] at this
                rw [h] at this
                exact this
              · simp at h
            · simp only [xappendAt] at h
              have hblk := (hst _ (by simp : Value.slice (some a) sLen sCap ∈ [Value.slice (some a) sLen sCap, x])).block_slice
              split at h
              · rename_i hopen
                have hopen := blt_spec.1 hopen
                have hrc : renCap σ a.block sCap = sCap := by unfold renCap; rw [if_pos hopen]
                split at h
                · rename_i e1
                  have e1 := Nat.le_of_ble_eq_true e1
                  have hrc2 : renCap σ a.block sCap = sCap := hrc
                  split at h
                  · simp only [Option.some.injEq, Prod.mk.injEq] at h
                    obtain ⟨rfl, rfl⟩ := h
                    refine Does.same hR ?_ (stab_slice' hblk _ _)
                    simp only [ren, hrc]
                    exact run_append_fit ha0 ha1 hu hd hi hs (x1 w) (x2 w rfl) e1 (fun a h => by simp [storeCells]) (fun h => by cases h)
                  · rename_i v0 new0 hfl
                    split at h
                    · rename_i H1 hp
                      simp only [Option.some.injEq, Prod.mk.injEq] at h
                      obtain ⟨rfl, rfl⟩ := h
                      obtain ⟨w', hr, r1, r2, r3⟩ := run_put hR hp (flatL_mem hfl) x4
                      refine ⟨σ, w', ?_, r1, r2, by rw [r3]; exact stab_slice' hblk _ _⟩
                      simp only [ren, hrc]
                      refine run_append_fit ha0 ha1 hu hd hi hs (x1 w) (x2 w rfl) e1 (fun b hb => ?_) (fun h => by cases h)
                      cases hb
                      rw [← renAddr_add]
                      exact hr
                    · simp at h
                  · simp at h
                · rename_i e1
                  split at h
                  · rename_i old hold
                    simp only [Option.some.injEq] at h
                    have hgrow : sCap < sLen + n := by
                      rcases Nat.lt_or_ge sCap (sLen + n) with hc | hc
                      · exact hc
                      · have := Nat.ble_eq_true_of_le hc; rw [this] at e1; cases e1
                    obtain ⟨o1, _, _, o2⟩ := xcells_spec hR hold
                    obtain ⟨newCap, hk, hrun⟩ := run_append_grow (P := P) (w := w) (ty := ty) (old := ⟨old.map (ren σ)⟩) ha0 ha1 hu hd hi hs hb hz (x1 w) x2
                      (base := some (renAddr σ a)) (sLen := sLen) (sCap := sCap) (fun w1 hw => by simpa [Builtin.firstCells] using run_loadCells (hR.of_heap hw) hold) hgrow (by simpa [sliceLen] using g5) g2
                    have := does_grow (P := P) (σ := σ) (H := H) (H0 := H) (k := sLen + n) (newCap := newCap) (old := old) (new := new) hR (Stp.refl _ _ _) rfl hs g3
                      (m := Builtin.append_ ats ty #[ren σ (.slice (some a) sLen sCap), ren σ x])
                      (fun v hv => by rcases List.mem_append.1 hv with hv | hv; exact o2 v hv; exact x4 v hv) (by rw [List.length_append, o1, x3, Nat.add_mul]) hk (by simp only [ren, hrc]; rw [hrun])
                    rw [h] at this
                    exact this
                  · simp at h
              · rename_i hopen
                have hopen : OPEN ≤ sCap := by
                  rcases Nat.lt_or_ge sCap OPEN with hc | hc
                  · have := blt_spec.2 hc; rw [this] at hopen; cases hopen
                  · exact hc
                split at h
                · rename_i cells elem' old hsp hg hold
                  split at h
                  · rename_i k1 k2 k3 k4
                    have k1 := Nat.eq_of_beq_eq_true k1
                    have k2 := Nat.eq_of_beq_eq_true k2
                    have k3 := Nat.le_of_ble_eq_true k3
                    subst k1
                    obtain ⟨o1, _, _, o2⟩ := xcells_spec hR hold
                    have hrc : renCap σ a.block sCap = (σ a.block).cap - (sCap - OPEN) := by unfold renCap; rw [if_neg (by omega)]
                    rcases hR.obj _ _ hg with hk | ⟨c, fr, hc, hlen, hcell, hfr, hcap, _⟩
                    · cases hk
                    have hel : elSize P elem = size := by simp [elSize, hs]
                    obtain ⟨c1, c2⟩ := hcap rfl
                    rw [hel] at c1 c2
                    have hroom : sCap - OPEN + sLen ≤ (σ a.block).cap := by
                      have : (sCap - OPEN + sLen) * size ≤ (σ a.block).cap * size := by
                        rw [Nat.add_mul, ← k2]; omega
                      exact Nat.le_of_mul_le_mul_right this (by omega)
                    split at h
                    · rename_i e0
                      have e0 := Nat.eq_of_beq_eq_true e0
                      subst e0
                      simp only [Option.some.injEq, Prod.mk.injEq] at h
                      obtain ⟨rfl, rfl⟩ := h
                      have hnew : new = [] := by
                        have : new.length = 0 := by rw [x3, Nat.zero_mul]
                        exact List.eq_nil_of_length_eq_zero this
                      subst hnew
                      refine Does.same hR ?_ (stab_slice' hblk _ _)
                      simp only [ren, hrc]
                      exact run_append_fit ha0 ha1 hu hd hi hs (x1 w) (x2 w rfl) (by omega) (fun a h => by simp [storeCells]) (fun h => by cases h)
                    · rename_i e0
                      simp only [Option.some.injEq] at h
                      have hmem : ∀ v ∈ old ++ new, Stab H.next v := fun v hv => by rcases List.mem_append.1 hv with hv | hv; exact o2 v hv; exact x4 v hv
                      have hlen2 : (old ++ new).length = (sLen + n) * size := by rw [List.length_append, o1, x3, Nat.add_mul]
                      by_cases hfit : sLen + n ≤ (σ a.block).cap - (sCap - OPEN)
                      · -- there was room
                        have hfr0 := hfr (by intro e; cases e)
                        subst hfr0
                        have hin : a.off + sLen * size + new.length ≤ (σ a.block).cap * size := by
                          rw [x3, k2, ← Nat.add_mul, ← Nat.add_mul]
                          exact Nat.mul_le_mul_right _ (by omega)
                        obtain ⟨w', hrun, e1, e2, e3, e4, e5, c', e6, e7, e8⟩ := run_storeCells (P := P) (new.map (ren σ)) 0 w ⟨(σ a.block).blk, (σ a.block).off + a.off + sLen * size, none⟩ c elem rfl
                          hc (fun v hv => by obtain ⟨u, hu, rfl⟩ := List.mem_map.1 hv; rw [flat_ren]; exact flatL_mem k4 u hu)
                          (by simp only [List.length_map]; omega)
                        dsimp only at e5 e6 e8
                        have hadd : (renAddr σ a).add (sLen * size) = ⟨(σ a.block).blk, (σ a.block).off + a.off + sLen * size, none⟩ := by
                          rw [add_off _ _ (by simp [renAddr, hsp])]; simp [renAddr]
                        have hsame : ∀ v, v ∈ old ++ new → ren (upd σ H.next ⟨(σ a.block).blk, (σ a.block).off + a.off, (σ a.block).cap - (sCap - OPEN)⟩) v = ren σ v := fun v hv => ren_upd (hmem v hv)
                        have hcl : ∀ (j : Nat) v, (old ++ new)[j]? = some v → c'[(σ a.block).off + a.off + j]? = some (ren σ v) := by
                          intro j v hj
                          have h8 := e8 ((σ a.block).off + a.off + j)
                          by_cases hx : j < old.length
                          · rw [List.getElem?_append_left hx] at hj
                            rw [h8, if_neg (by omega)]
                            have hspec := (xcells_spec hR hold).2.2.1 j v hj
                            rw [add_off _ _ (by simp [renAddr, hsp])] at hspec
                            simpa [World.cell?, renAddr, hc] using hspec
                          · rw [List.getElem?_append_right (by omega)] at hj
                            have hjl : j - old.length < new.length := by
                              rcases Nat.lt_or_ge (j - old.length) new.length with h | h
                              · exact h
                              · rw [List.getElem?_eq_none h] at hj; cases hj
                            rw [h8, if_pos ⟨by omega, by simp only [List.length_map]; omega⟩, List.getElem?_map,
                              show (σ a.block).off + a.off + j - ((σ a.block).off + a.off + sLen * size + 0) = j - old.length by omega, hj]; rfl
                        obtain ⟨r1, r2⟩ := hR.claim (w' := w') (elem := elem) (o' := .row (old ++ new) elem .opn) (p := ⟨(σ a.block).blk, (σ a.block).off + a.off, (σ a.block).cap - (sCap - OPEN)⟩)
                          hg rfl rfl (fun v hv => (hmem v hv).mono (Nat.le_succ _)) rfl e5 e4 e1 e2 e3 (by
                            refine .inr ⟨c', (0, 0), ?_, ?_, ?_, fun _ => rfl, fun _ => ?_, (fun hg => absurd hg (Nat.not_lt.2 hR.glob.1)), (fun hk => by cases hk)⟩
                            · rw [upd_same]; exact e6
                            · rw [upd_same, hlen2, e7]; dsimp only
                              have : (sLen + n) * size ≤ ((σ a.block).cap - (sCap - OPEN)) * size := Nat.mul_le_mul_right _ hfit
                              have hmul : ((σ a.block).cap - (sCap - OPEN)) * size + (sCap - OPEN) * size = (σ a.block).cap * size := by rw [← Nat.add_mul, Nat.sub_add_cancel (by omega)]
                              omega
                            · intro j v hj
                              rw [upd_same, hsame v (List.mem_of_getElem? hj)]
                              exact hcl j v hj
                            · rw [upd_same, hel, hlen2, e7]; dsimp only
                              have : (sLen + n) * size ≤ ((σ a.block).cap - (sCap - OPEN)) * size := Nat.mul_le_mul_right _ hfit
                              have hmul : ((σ a.block).cap - (sCap - OPEN)) * size + (sCap - OPEN) * size = (σ a.block).cap * size := by rw [← Nat.add_mul, Nat.sub_add_cancel (by omega)]
                              exact ⟨this, by omega⟩)
                        have hv : (xgrow (H.set a.block (.row [] elem .dead)) elem (sLen + n) (old ++ new)) = (v, H') := h
                        simp only [xgrow, Prod.mk.injEq] at hv
                        obtain ⟨rfl, rfl⟩ := hv
                        refine ⟨_, w', ?_, r1, r2, stab_slice (Nat.lt_succ_self _) 0 _ _⟩
                        have hres := run_append_fit (P := P) (w := w) (w' := w') (ty := ty) ha0 ha1 hu hd hi hs (x1 w) (x2 w rfl) hfit (base := some (renAddr σ a)) (fun b hb => by
                          cases hb
                          rw [hadd]
                          exact hrun) (fun h => by cases h)
                        simp only [ren, hrc]
                        rw [hres]
                        have hra : renAddr σ a = ⟨(σ a.block).blk, (σ a.block).off + a.off, none⟩ := by simp [renAddr, hsp]
                        rw [hra]
                        simp only [renAddr, renCap_open, Heap.next_set, upd_same, Nat.add_zero]
                      · -- there was none
                        obtain ⟨newCap, hk, hrun⟩ := run_append_grow (P := P) (w := w) (ty := ty) (old := ⟨old.map (ren σ)⟩) ha0 ha1 hu hd hi hs hb hz (x1 w) x2
                          (base := some (renAddr σ a)) (sLen := sLen) (sCap := (σ a.block).cap - (sCap - OPEN)) (fun w1 hw => by simpa [Builtin.firstCells] using run_loadCells (hR.of_heap hw) hold)
                          (by omega) (by simpa [sliceLen] using g5) g2
                        obtain ⟨q1, q2⟩ := hR.kill (elem := elem) hg
                        have := does_grow (P := P) (σ := σ) (H := H) (H0 := H.set a.block (.row [] elem .dead)) (k := sLen + n) (newCap := newCap) (old := old) (new := new) q1 q2 rfl hs g3
                          (m := Builtin.append_ ats ty #[ren σ (.slice (some a) sLen sCap), ren σ x]) hmem hlen2 hk (by simp only [ren, hrc]; rw [hrun])
                        rw [h] at this
                        exact this
                  · simp at h
                · simp at h
          · simp at h
        · simp at h
      · simp at h
    · simp at h
  · simp at h

end
end Go.Proofs.YtibeinbfhhoeiaaGreatDoor.Ab

namespace Go.Proofs.YtibeinbfhhoeiaaGreatDoor.Ab
open Go
noncomputable section

/- ## clear -/
def xclear (P : Program) (H : Heap) (t : TypeId) (x : Value) : Option Heap := match xunder P t, x with
  | some (.slice _), .slice none _ _ => some H
  | some (.slice _), .slice (some _) 0 _ => some H
  | some (.slice elem), .slice (some a) (n + 1) _ => match xzero P elem with
    | some z => match flatL z.cells.toList with
      | true => xput H a (zerosL z.cells.toList (n + 1))
      | false => none
    | none => none
  | _, _ => none

theorem does_clear {P : Program} {σ : Sig} {H H' : Heap} {w : World} (hR : Rep P σ H w) {ats : Array TypeId} {ty t : TypeId} {x : Value} (ha : ats[0]? = some t)
    (h : xclear P H t x = some H') : Does P σ H w (Builtin.clear_ ats ty #[ren σ x]) (.tuple #[]) H' := by
  unfold xclear at h
  split at h
  · rename_i e l c hu
    simp only [Option.some.injEq] at h
    subst h
    refine Does.same hR ?_ (Stab.clo rfl)
    simp [Builtin.clear_, ha, is_underlying hu w, ren, renArr, renL]
  · rename_i e a c hu
    simp only [Option.some.injEq] at h
    subst h
    refine Does.same hR ?_ (Stab.clo rfl)
    simp [Builtin.clear_, ha, is_underlying hu w, ren, renArr, renL]
  · rename_i elem a n c hu
    split at h
    · rename_i z hz
      obtain ⟨iz, hzc⟩ := is_zero hz
      split at h
      · rename_i hf
        have hm : ∀ v ∈ zerosL z.cells.toList (n + 1), clo v = true := fun v hv => clo_cells hzc v (zerosL_mem v hv)
        obtain ⟨w', hr, r1, r2, r3⟩ := run_put hR h (fun v hv => flatL_mem hf v (zerosL_mem v hv)) (fun v hv => Stab.clo (hm v hv))
        refine ⟨σ, w', ?_, r1, r2, Stab.clo rfl⟩
        have hmap : (zerosL z.cells.toList (n + 1)).map (ren σ) = zerosL z.cells.toList (n + 1) :=
          (List.map_congr_left fun v hv => ren_clo σ v (hm v hv)).trans (List.map_id _)
        rw [hmap] at hr
        have hzc2 : Builtin.zeroCells z.cells (n + 1) = (zerosL z.cells.toList (n + 1)).toArray := zeros_model z.cells (n + 1) z.cells.size rfl
        simp [Builtin.clear_, ha, is_underlying hu w, ren, iz w, hzc2, hr, renArr, renL]
      · simp at h
    · simp at h
  · simp at h

/- ## maps -/
def xfindNow (d : TypeDesc) (k : Value) : List (Value × Value) → Nat → Option (Option (Nat × Value))
  | [], _ => some none
  | e :: es, i => match Instr.sameNow d k e.1 with
    | some true => some (some (i, e.2))
    | some false => xfindNow d k es (i + 1)
    | none => none
def xfindAsk (P : Program) (kt : TypeId) (k : Value) : List (Value × Value) → Nat → Option (Option (Nat × Value))
  | [], _ => some none
  | e :: es, i => match peel P (Op.equal kt k e.1) with
    | some true => some (some (i, e.2))
    | some false => xfindAsk P kt k es (i + 1)
    | none => none
def xfind (P : Program) (kt : TypeId) (k : Value) (es : List (Value × Value)) : Option (Option (Nat × Value)) := match xunder P kt with
  | some d => match xfindNow d k es 0 with
    | some r => some r
    | none => xfindAsk P kt k es 0
  | none => none

def renHit (σ : Sig) (r : Option (Nat × Value)) : Option (Nat × Value) := r.map fun p => (p.1, ren σ p.2)

theorem findNow_ren (σ : Sig) (d : TypeDesc) (k : Value) : ∀ (es : List (Value × Value)) (me : List MapEntry) (i : Nat),
    me.map (fun e => (e.key, e.val)) = es.map (fun p => (p.1, ren σ p.2)) → Instr.findNow d k me i = (xfindNow d k es i).map (renHit σ) := by
  intro es
  induction es with
  | nil =>
    intro me i h
    cases me with
    | nil => rfl
    | cons m me => simp at h
  | cons e es ih =>
    intro me i h
    cases me with
    | nil => simp at h
    | cons m me =>
      simp only [List.map_cons, List.cons.injEq, Prod.mk.injEq] at h
      obtain ⟨⟨h1, h2⟩, h3⟩ := h
      simp only [Instr.findNow, xfindNow, h1]
      cases Instr.sameNow d k e.1 with
      | none => rfl
      | some b =>
        cases b with
        | true => simp [renHit, h2]
        | false => exact ih me (i + 1) h3

theorem findAsk_ren {P : Program} (σ : Sig) (kt : TypeId) (k : Value) : ∀ (es : List (Value × Value)) (me : List MapEntry) (i : Nat) (r : Option (Nat × Value)),
    me.map (fun e => (e.key, e.val)) = es.map (fun p => (p.1, ren σ p.2)) → xfindAsk P kt k es i = some r → Is P (Instr.findAsking kt k me i) (renHit σ r) := by
  intro es
  induction es with
  | nil =>
    intro me i r h hx
    cases me with
    | nil => simp only [xfindAsk, Option.some.injEq] at hx; subst hx; exact Is.pure _
    | cons m me => simp at h
  | cons e es ih =>
    intro me i r h hx
    cases me with
    | nil => simp at h
    | cons m me =>
      simp only [List.map_cons, List.cons.injEq, Prod.mk.injEq] at h
      obtain ⟨⟨h1, h2⟩, h3⟩ := h
      simp only [xfindAsk] at hx
      simp only [Instr.findAsking, h1]
      split at hx
      · rename_i hp
        simp only [Option.some.injEq] at hx
        subst hx
        refine (Is.peel hp).bind ?_
        simp only [if_true, renHit, Option.map_some, h2]
        exact Is.pure _
      · rename_i hp
        refine (Is.peel hp).bind ?_
        simp only [Bool.false_eq_true, if_false]
        exact ih me (i + 1) r h3 hx
      · simp at hx

theorem is_find {P : Program} (σ : Sig) {kt : TypeId} {k : Value} {es : List (Value × Value)} {me : List MapEntry} {r : Option (Nat × Value)}
    (h : me.map (fun e => (e.key, e.val)) = es.map (fun p => (p.1, ren σ p.2))) (hx : xfind P kt k es = some r) : Is P (Instr.findKey kt k me) (renHit σ r) := by
  unfold xfind at hx
  split at hx
  · rename_i d hu
    unfold Instr.findKey
    refine (is_underlying hu).bind ?_
    rw [findNow_ren σ d k es me 0 h]
    split at hx
    · rename_i r' hr
      simp only [Option.some.injEq] at hx
      subst hx
      rw [hr]
      exact Is.pure _
    · rename_i hr
      rw [hr]
      exact findAsk_ren σ kt k es me 0 r h hx
  · simp at hx

def xentries (H : Heap) (x : Value) : Option (List (Value × Value)) := match x with
  | .map none => some []
  | .map (some r) => match H.get r with
    | some (.map es) => some es
    | _ => none
  | _ => none

def xlookup (P : Program) (H : Heap) (t : TypeId) (x k : Value) (ok : Bool) : Option Value := match xunder P t, clo k, xentries H x with
  | some (.map kt et), true, some es => match peel P (Instr.checkKey es.isEmpty 10000 kt k), xfind P kt k es with
    | some _, some (some (_, v)) => some (match ok with
      | true => .tuple #[v, .bool true]
      | false => v)
    | some _, some none => match xzero P et with
      | some z => some (match ok with
        | true => .tuple #[z, .bool false]
        | false => z)
      | none => none
    | _, _ => none
  | _, _, _ => none

theorem xfindNow_mem {d : TypeDesc} {k : Value} : ∀ {es : List (Value × Value)} {i j : Nat} {v : Value}, xfindNow d k es i = some (some (j, v)) → ∃ p ∈ es, p.2 = v := by
  intro es
  induction es with
  | nil => intro i j v h; simp [xfindNow] at h
  | cons e es ih =>
    intro i j v h
    simp only [xfindNow] at h
    split at h
    · simp only [Option.some.injEq, Prod.mk.injEq] at h; exact ⟨e, by simp, h.2⟩
    · obtain ⟨p, hp, e'⟩ := ih h; exact ⟨p, List.mem_cons_of_mem _ hp, e'⟩
    · simp at h
theorem xfindAsk_mem {P : Program} {kt : TypeId} {k : Value} : ∀ {es : List (Value × Value)} {i j : Nat} {v : Value}, xfindAsk P kt k es i = some (some (j, v)) → ∃ p ∈ es, p.2 = v := by
  intro es
  induction es with
  | nil => intro i j v h; simp [xfindAsk] at h
  | cons e es ih =>
    intro i j v h
    simp only [xfindAsk] at h
    split at h
    · simp only [Option.some.injEq, Prod.mk.injEq] at h; exact ⟨e, by simp, h.2⟩
    · obtain ⟨p, hp, e'⟩ := ih h; exact ⟨p, List.mem_cons_of_mem _ hp, e'⟩
    · simp at h
theorem xfind_mem {P : Program} {kt : TypeId} {k : Value} {es : List (Value × Value)} {j : Nat} {v : Value} (h : xfind P kt k es = some (some (j, v))) : ∃ p ∈ es, p.2 = v := by
  unfold xfind at h
  split at h
  · split at h
    · rename_i r hr
      simp only [Option.some.injEq] at h
      subst h
      exact xfindNow_mem hr
    · exact xfindAsk_mem h
  · simp at h

theorem run_entries {P : Program} {σ : Sig} {H : Heap} {w : World} (hR : Rep P σ H w) {x : Value} {es : List (Value × Value)} (h : xentries H x = some es) :
    ∃ me : Array MapEntry, ((ren σ x = .map none ∧ me = #[]) ∨ (∃ r clock, ren σ x = .map (some r) ∧ w.heap[r]? = some (.map me clock))) ∧
      me.toList.map (fun e => (e.key, e.val)) = es.map (fun p => (p.1, ren σ p.2)) ∧ (∀ p ∈ es, Stab H.next p.2) := by
  unfold xentries at h
  split at h
  · simp only [Option.some.injEq] at h
    subst h
    exact ⟨#[], .inl ⟨by simp [ren], rfl⟩, rfl, fun p hp => by cases hp⟩
  · rename_i r
    split at h
    · rename_i es' hg
      simp only [Option.some.injEq] at h
      subst h
      obtain ⟨me, clock, h1, h2, _⟩ := hR.obj _ _ hg
      exact ⟨me, .inr ⟨_, clock, by simp [ren], h1⟩, h2, fun p hp => hR.stab _ _ hg p hp⟩
    · simp at h
  · simp at h

theorem run_getObj_map {P : Program} {w : World} {r : Nat} {me : Array MapEntry} {clock : Nat} (h : w.heap[r]? = some (.map me clock)) : (getObj r).run P w = .ok (.map me clock) w := by
  simp [getObj, Sem.run, h]

theorem run_xlookup {P : Program} {σ : Sig} {H : Heap} {w : World} (hR : Rep P σ H w) {t : TypeId} {x k v : Value} {ok : Bool} (h : xlookup P H t x k ok = some v) :
    (Instr.lookup t (ren σ x) (ren σ k) ok).run P w = .ok (ren σ v) w ∧ Stab H.next v := by
  unfold xlookup at h
  split at h
  · rename_i kt et es hu hk hes
    obtain ⟨me, h1, h2, h3⟩ := run_entries hR hes
    have hemp : me.isEmpty = es.isEmpty := by
      have := congrArg List.length h2
      simp only [List.length_map, Array.length_toList] at this
      cases es with
      | nil => simp at this; simp [this]
      | cons e es => simp at this; simp [Array.isEmpty, this]
    split at h
    · rename_i j u hc hf
      have hfi := is_find σ h2 hf w
      have hck := Is.peel hc w
      have hst : Stab H.next u := by obtain ⟨p, hp, e⟩ := xfind_mem hf; exact e ▸ h3 p hp
      simp only [Option.some.injEq] at h
      have hrun : ∀ b : Bool, (Instr.lookup t (ren σ x) (ren σ k) b).run P w = .ok (if b then .tuple #[ren σ u, .bool true] else ren σ u) w := by
        intro b
        rw [ren_clo σ k hk]
        unfold Instr.lookup
        rcases h1 with ⟨e1, rfl⟩ | ⟨r, clock, e1, e2⟩
        · simp only [Sem.run_bind, is_underlying hu w, Result.andThen_ok, e1]
          simp [hemp, hck, hfi, renHit]
        · simp only [Sem.run_bind, is_underlying hu w, Result.andThen_ok, e1, run_getObj_map e2]
          simp [hemp, hck, hfi, renHit]
      subst h
      cases ok with
      | true =>
        refine ⟨by rw [hrun]; simp [ren, renArr, renL], ?_⟩
        exact Stab.tuple (l := [u, .bool true]) (fun v hv => by
          rcases List.mem_cons.1 hv with rfl | hv
          · exact hst
          · simp only [List.mem_singleton] at hv; subst hv; exact Stab.clo rfl)
      | false => exact ⟨by rw [hrun]; simp, hst⟩
    · rename_i hc hf
      split at h
      · rename_i z hz
        obtain ⟨iz, hzc⟩ := is_zero hz
        have hfi := is_find σ h2 hf w
        have hck := Is.peel hc w
        simp only [Option.some.injEq] at h
        have hrun : ∀ b : Bool, (Instr.lookup t (ren σ x) (ren σ k) b).run P w = .ok (if b then .tuple #[z, .bool false] else z) w := by
          intro b
          rw [ren_clo σ k hk]
          unfold Instr.lookup
          rcases h1 with ⟨e1, rfl⟩ | ⟨r, clock, e1, e2⟩
          · simp only [Sem.run_bind, is_underlying hu w, Result.andThen_ok, e1]
            simp [hemp, hck, hfi, renHit, iz w]
          · simp only [Sem.run_bind, is_underlying hu w, Result.andThen_ok, e1, run_getObj_map e2]
            simp [hemp, hck, hfi, renHit, iz w]
        subst h
        cases ok with
        | true => exact ⟨by rw [hrun]; simp [ren, renArr, renL, ren_clo σ z hzc], Stab.clo (by simp [clo, cloArr, cloL, hzc])⟩
        | false => exact ⟨by rw [hrun]; simp [ren_clo σ z hzc], Stab.clo hzc⟩
      · simp at h
    · simp at h
  · simp at h


def xmapUpdate (P : Program) (H : Heap) (t : TypeId) (m k v : Value) : Option Heap := match xunder P t, clo k, m with
  | some (.map kt _), true, .map (some r) => match H.get r with
    | some (.map es) => match peel P (Instr.checkKey false 10000 kt k), xfind P kt k es with
      | some _, some (some (i, _)) => match es[i]? with
        | some e => match Instr.sameBits 10000 e.1 k with
          | true => some (H.set r (.map (es.set i (k, v))))
          | false => none
        | none => none
      | some _, some none => some (H.set r (.map (es ++ [(k, v)])))
      | _, _ => none
    | _ => none
  | _, _, _ => none

theorem run_xmapUpdate {P : Program} {σ : Sig} {H H' : Heap} {w : World} (hR : Rep P σ H w) {t : TypeId} {m k v : Value} (h : xmapUpdate P H t m k v = some H')
    (hst : Stab H.next v) :
    ∃ w', (Instr.mapUpdate t (ren σ m) (ren σ k) (ren σ v)).run P w = .ok () w' ∧ Rep P σ H' w' ∧ Stp σ H w σ H' w' ∧ H'.next = H.next := by
  unfold xmapUpdate at h
  split at h
  · rename_i kt et r hu hk
    split at h
    · rename_i es hg
      obtain ⟨me, clock, h1, h2, h3⟩ := hR.obj _ _ hg
      have hlt : (σ r).blk < w.heap.size := (hR.obj _ _ hg).lt_size rfl
      have hset : ∀ (x : Obj), ({ w with heap := w.heap.setIfInBounds (σ r).blk x } : World).heap[(σ r).blk]? = some x := fun x => by
        simp [hlt]
      have hoth : ∀ (x : Obj) b, b ≠ (σ r).blk → ({ w with heap := w.heap.setIfInBounds (σ r).blk x } : World).heap[b]? = w.heap[b]? := fun x b hb => by
        simp [Array.getElem?_setIfInBounds_ne (Ne.symm hb)]
      have hso : ∀ (x : Obj), (setObj (σ r).blk x).run P w = .ok () { w with heap := w.heap.setIfInBounds (σ r).blk x } := fun x => by
        simp [setObj, Sem.run, h1]
      split at h
      · rename_i i u hc hf
        have hfi := is_find σ h2 hf w
        have hck := Is.peel hc w
        split at h
        · rename_i e he
          split at h
          · rename_i hsb
            simp only [Option.some.injEq] at h
            subst h
            have hme : me[i]?.map (·.key) = some e.1 := by
              have := congrArg (fun l => l[i]?) h2
              simp only [List.getElem?_map, he, Option.map_some, Array.getElem?_toList] at this
              cases hm : me[i]? with
              | none => simp [hm] at this
              | some y => simp only [hm, Option.map_some, Option.some.injEq, Prod.mk.injEq] at this ⊢; exact this.1
            have hkt : ((me[i]?.map (·.key)).getD k) = e.1 := by rw [hme]; rfl
            obtain ⟨r1, r2⟩ := hR.write (o' := .map (es.set i (k, v))) hg rfl rfl (w' := { w with heap := w.heap.setIfInBounds (σ r).blk (.map (me.modify i fun e => { e with key := k, val := ren σ v }) clock) })
              (fun p hp => by
                rcases List.mem_or_eq_of_mem_set hp with hp | rfl
                · exact hR.stab _ _ hg p hp
                · exact hst) (hoth _) (by simp) rfl rfl rfl ⟨_, clock, hset _, by
                simp only [Array.toList_modify]
                rw [List.map_set, ← h2]
                apply List.ext_getElem?
                intro j
                simp only [List.getElem?_map, List.getElem?_modify, List.getElem?_set]
                by_cases hij : i = j
                · subst hij
                  have hi : i < me.toList.length := by
                    rcases Nat.lt_or_ge i me.toList.length with h | h
                    · exact h
                    · have : me[i]? = none := by rw [← Array.getElem?_toList, List.getElem?_eq_none h]
                      rw [this] at hme; cases hme
                  simp only [List.length_map]
                  rw [List.getElem?_eq_getElem hi]
                  simpa using hi
                · simp [hij], fun p hp => by
                rcases List.mem_or_eq_of_mem_set hp with hp | rfl
                · exact h3 p hp
                · exact hk⟩
            refine ⟨_, ?_, r1, r2, rfl⟩
            rw [ren_clo σ k hk]
            simp only [Instr.mapUpdate, Sem.run_bind, is_underlying hu w, Result.andThen_ok, ren, run_getObj_map h1, hck, hfi, renHit, Option.map_some, hkt, Instr.keyThatStays, hsb, if_true, Sem.run_pure]
            exact hso _
          · simp at h
        · simp at h
      · rename_i hc hf
        have hfi := is_find σ h2 hf w
        have hck := Is.peel hc w
        simp only [Option.some.injEq] at h
        subst h
        obtain ⟨r1, r2⟩ := hR.write (o' := .map (es ++ [(k, v)])) hg rfl rfl (w' := { w with heap := w.heap.setIfInBounds (σ r).blk (.map (me.push { key := k, val := ren σ v, born := clock }) (clock + 1)) })
          (fun p hp => by
            rcases List.mem_append.1 hp with hp | hp
            · exact hR.stab _ _ hg p hp
            · simp only [List.mem_singleton] at hp; subst hp; exact hst) (hoth _) (by simp) rfl rfl rfl ⟨_, clock + 1, hset _, by
            rw [Array.toList_push, List.map_append, h2, List.map_append]; rfl, fun p hp => by
            rcases List.mem_append.1 hp with hp | hp
            · exact h3 p hp
            · simp only [List.mem_singleton] at hp; subst hp; exact hk⟩
        refine ⟨_, ?_, r1, r2, rfl⟩
        rw [ren_clo σ k hk]
        simp only [Instr.mapUpdate, Sem.run_bind, is_underlying hu w, Result.andThen_ok, ren, run_getObj_map h1, hck, hfi, renHit, Option.map_none]
        exact hso _
      · simp at h
    · simp at h
  · simp at h

def xmakeMap (P : Program) (H : Heap) (t : TypeId) (r : Option Value) : Option (Value × Heap) := match r with
  | none => some (.map (some H.next), H.alloc (.map []))
  | some (.int _ _) => match xunder P t with
    | some (.map _ _) => some (.map (some H.next), H.alloc (.map []))
    | _ => none
  | _ => none

theorem does_makeMap {P : Program} {σ : Sig} {H H' : Heap} {w : World} (hR : Rep P σ H w) {t : TypeId} {r : Option Value} {v : Value} (h : xmakeMap P H t r = some (v, H')) :
    DoesF P σ H w (Instr.makeMap t (r.map (ren σ))) v H' := by
  have hnew := hR.alloc (o := .map []) (x := .map #[] 0) (p := ⟨w.heap.size, 0, 0⟩) rfl (fun p hp => by cases hp) ⟨#[], 0, by rw [upd_same]; exact push_new, rfl, fun p hp => by cases hp⟩
  have key : ∀ m : Sem Value, m.run P w = ((do pure (.map (some (← newObj (.map #[] 0))))) : Sem Value).run P w →
      DoesF P σ H w m (.map (some H.next)) (H.alloc (.map [])) := by
    intro m hm
    refine ⟨_, ?_, hnew.1, hnew.2, fun σ σ' hs => by simp [ren, hs H.next (Nat.lt_succ_self _)]⟩
    rw [hm]
    simp [ren, upd_same]
  unfold xmakeMap at h
  split at h
  · simp only [Option.some.injEq, Prod.mk.injEq] at h
    obtain ⟨rfl, rfl⟩ := h
    exact key _ (by simp [Instr.makeMap])
  · split at h
    · rename_i hu
      simp only [Option.some.injEq, Prod.mk.injEq] at h
      obtain ⟨rfl, rfl⟩ := h
      exact key _ (by simp [Instr.makeMap, is_underlying hu w, ren, asInt, asIntOf])
    · simp at h
  · simp at h

def xmakeChan (P : Program) (H : Heap) (t : TypeId) (x : Value) : Option (Value × Heap) := match xunder P t, x with
  | some (.chan _ elem), .int _ n => match xbytes P elem with
    | some b => match decide (0 ≤ n) && decide (n ≤ 1073741824) && Nat.ble b 4096 with
      | true => some (.chan (some H.next), H.alloc (.chan n.toNat []))
      | false => none
    | none => none
  | _, _ => none

theorem does_makeChan {P : Program} {σ : Sig} {H H' : Heap} {w : World} (hR : Rep P σ H w) {t : TypeId} {x v : Value} (h : xmakeChan P H t x = some (v, H')) :
    DoesF P σ H w (Instr.makeChan t (ren σ x)) v H' := by
  unfold xmakeChan at h
  split at h
  · rename_i dir elem k n hu
    split at h
    · rename_i b hb
      obtain ⟨i, _, hib, iti⟩ := is_bytes hb
      split at h
      · rename_i hc
        simp only [Bool.and_eq_true, decide_eq_true_eq] at hc
        have hc3 := Nat.le_of_ble_eq_true hc.2
        simp only [Option.some.injEq, Prod.mk.injEq] at h
        obtain ⟨rfl, rfl⟩ := h
        have hnew := hR.alloc (o := .chan n.toNat []) (x := .chan n.toNat #[] false 0 0 false) (p := ⟨w.heap.size, 0, 0⟩) rfl (fun p hp => by cases hp) ⟨0, 0, by rw [upd_same]; exact push_new⟩
        refine ⟨_, ?_, hnew.1, hnew.2, fun σ σ' hs => by simp [ren, hs H.next (Nat.lt_succ_self _)]⟩
        have hbn : (i.bytes : Int) * n ≤ 4096 * 1073741824 := by
          rw [hib]
          exact Int.mul_le_mul (by omega) hc.1.2 hc.1.1 (by omega)
        have hno : ¬ (n < 0 ∨ n > IntKind.i64.max ∨ (i.bytes : Int) * n > 2 ^ 48 - 112) := by
          rw [IntKind.max_i64]; omega
        simp only [Instr.makeChan, ren, asInt, asIntOf, Sem.run_bind, Sem.run_pure, Result.andThen_ok, is_underlying hu w, iti w, hno, if_false]
        simp [upd_same]
      · simp at h
    · simp at h
  · simp at h

/- ## bytes as a string -/
def xu8s : List Value → Option (List UInt8)
  | [] => some []
  | .int .u8 n :: l => match xu8s l with
    | some r => some (UInt8.ofNat n.toNat :: r)
    | none => none
  | _ :: _ => none

theorem xu8s_spec : ∀ (l : List Value) (r : List UInt8), xu8s l = some r → ∃ ns : List Int, l = ns.map (Value.int .u8) ∧ r = ns.map fun n => UInt8.ofNat n.toNat := by
  intro l
  induction l with
  | nil => intro r h; simp only [xu8s, Option.some.injEq] at h; subst h; exact ⟨[], rfl, rfl⟩
  | cons v l ih =>
    intro r h
    unfold xu8s at h
    split at h
    · simp at *
    · rename_i n l' heq
      simp only [List.cons.injEq] at heq
      obtain ⟨rfl, rfl⟩ := heq
      split at h
      · rename_i r' hr
        simp only [Option.some.injEq] at h
        subst h
        obtain ⟨ns, rfl, rfl⟩ := ih _ hr
        exact ⟨n :: ns, rfl, rfl⟩
      · simp at h
    · simp at h

def xstring (P : Program) (H : Heap) (src dst : TypeId) (x : Value) : Option Value := match xunder P src, xunder P dst, x with
  | some (.slice e), some .string, .slice none _ _ => match xunder P e with
    | some (.int .u8) => some (.string ⟨⟨[]⟩⟩)
    | _ => none
  | some (.slice e), some .string, .slice (some a) n _ => match xunder P e, xcells H a n with
    | some (.int .u8), some l => match xu8s l with
      | some r => some (.string ⟨⟨r⟩⟩)
      | none => none
    | _, _ => none
  | _, _, _ => none

theorem foldl_push (ns : List Int) : ∀ s : ByteArray, ns.foldl (fun r n => r.push (UInt8.ofNat n.toNat)) s = ⟨⟨s.data.toList ++ ns.map fun n => UInt8.ofNat n.toNat⟩⟩ := by
  induction ns with
  | nil => intro s; simp
  | cons n ns ih =>
    intro s
    rw [List.foldl_cons, ih]
    simp [ByteArray.push]

theorem run_xstring {P : Program} {σ : Sig} {H : Heap} {w : World} (hR : Rep P σ H w) {src dst : TypeId} {x v : Value} (h : xstring P H src dst x = some v) :
    (convert src dst (ren σ x)).run P w = .ok v w ∧ clo v = true := by
  unfold xstring at h
  split at h
  · rename_i e l c hs hd
    split at h
    · rename_i he
      simp only [Option.some.injEq] at h
      subst h
      refine ⟨?_, rfl⟩
      simp only [ren]
      rw [run_convert_bytes_string w src dst e none l c hs he hd]
      simp [Conv.bytesToString]
      rfl
    · simp at h
  · rename_i e a n c hs hd
    split at h
    · rename_i l he hl
      split at h
      · rename_i r hr
        simp only [Option.some.injEq] at h
        subst h
        refine ⟨?_, rfl⟩
        obtain ⟨ns, rfl, rfl⟩ := xu8s_spec _ _ hr
        simp only [ren]
        rw [run_convert_bytes_string w src dst e _ n _ hs he hd, run_bytesToString w (renAddr σ a) n _ ns (by
          rw [run_loadCells hR hl]
          congr 1
          apply Array.toList_inj.1
          simp [ren]), foldl_push]
        simp
      · simp at h
    · simp at h
  · simp at h


/- ## all of them -/
def xoptv (ρ : Operand → Option Value) : Option Operand → Option (Option Value)
  | none => some none
  | some x => match ρ x with
    | some v => some (some v)
    | none => none

theorem xoptv_ren {ρ : Operand → Option Value} {ρr : Operand → Value} {σ : Sig} (hρ : ∀ x y, ρ x = some y → ρr x = ren σ y) {x : Option Operand} {r : Option Value}
    (h : xoptv ρ x = some r) : x.map ρr = r.map (ren σ) := by
  cases x with
  | none => simp only [xoptv, Option.some.injEq] at h; subst h; rfl
  | some x =>
    simp only [xoptv] at h
    split at h
    · rename_i v hv
      simp only [Option.some.injEq] at h; subst h
      simp [hρ _ _ hv]
    · simp at h

def xhLoad (P : Program) (ρ : Operand → Option Value) (H : Heap) (t : TypeId) (x : Operand) : Option (Value × Heap) := match ρ x with
  | some a => match xload P H t a with
    | some v => some (v, H)
    | none => none
  | none => none
def xhStore (P : Program) (ρ : Operand → Option Value) (H : Heap) (t : TypeId) (x y : Operand) : Option (Value × Heap) := match ρ x, ρ y with
  | some a, some b => match xstore P H t a b with
    | some H' => some (undef, H')
    | none => none
  | _, _ => none
def xhBox (ρ : Operand → Option Value) (H : Heap) (t : TypeId) (x : Operand) : Option (Value × Heap) := match ρ x with
  | some a => some (xnewVar H t a)
  | none => none
def xhBuildSlice (P : Program) (ρ : Operand → Option Value) (H : Heap) (t : TypeId) (len : Nat) (parts : Array (Nat × Operand)) : Option (Value × Heap) := match xparts ρ parts.toList with
  | some l => xbuildSlice P H t len l
  | none => none
def xhMakeSlice (P : Program) (ρ : Operand → Option Value) (H : Heap) (t : TypeId) (l c : Operand) : Option (Value × Heap) := match ρ l, ρ c with
  | some a, some b => xmakeSlice P H t a b
  | _, _ => none
def xhMakeMap (P : Program) (ρ : Operand → Option Value) (H : Heap) (t : TypeId) (r : Option Operand) : Option (Value × Heap) := match xoptv ρ r with
  | some r => xmakeMap P H t r
  | none => none
def xhMakeChan (P : Program) (ρ : Operand → Option Value) (H : Heap) (t : TypeId) (s : Operand) : Option (Value × Heap) := match ρ s with
  | some a => xmakeChan P H t a
  | none => none
def xhSlice (P : Program) (ρ : Operand → Option Value) (H : Heap) (t : TypeId) (x : Operand) (lo hi mx : Option Operand) : Option (Value × Heap) :=
  match ρ x, xoptv ρ lo, xoptv ρ hi, xoptv ρ mx with
  | some a, some l, some h, some m => xslice P H t a l h m
  | _, _, _, _ => none
def xhLookup (P : Program) (ρ : Operand → Option Value) (H : Heap) (t : TypeId) (x k : Operand) (ok : Bool) : Option (Value × Heap) := match ρ x, ρ k with
  | some a, some b => match xlookup P H t a b ok with
    | some v => some (v, H)
    | none => none
  | _, _ => none
def xhMapUpdate (P : Program) (ρ : Operand → Option Value) (H : Heap) (t : TypeId) (m k v : Operand) : Option (Value × Heap) := match ρ m, ρ k, ρ v with
  | some a, some b, some c => match xmapUpdate P H t a b c with
    | some H' => some (undef, H')
    | none => none
  | _, _, _ => none
def xhConv (P : Program) (ρ : Operand → Option Value) (H : Heap) (s d : TypeId) (x : Operand) : Option (Value × Heap) := match ρ x with
  | some a => match xstring P H s d a with
    | some v => some (v, H)
    | none => none
  | none => none
def xhAppend (P : Program) (ρ : Operand → Option Value) (H : Heap) (args : Array Operand) (ats : Array TypeId) : Option (Value × Heap) := match xlist ρ args.toList with
  | some l => xappend P H ats l
  | none => none
def xhClear (P : Program) (ρ : Operand → Option Value) (H : Heap) (args : Array Operand) (ats : Array TypeId) : Option (Value × Heap) := match xlist ρ args.toList, ats[0]? with
  | some [x], some t => match xclear P H t x with
    | some H' => some (.tuple #[], H')
    | none => none
  | _, _ => none
/-- How long a map, a channel is. -/
def xlenH (P : Program) (H : Heap) (t : TypeId) (x : Value) : Option Value := match xunder P t, x with
  | some (.map _ _), x => match xentries H x with
    | some es => some (.int .i64 es.length)
    | none => none
  | some (.chan _ _), .chan (some r) => match H.get r with
    | some (.chan _ buf) => some (.int .i64 buf.length)
    | _ => none
  | _, _ => none

theorem run_xlenH {P : Program} {σ : Sig} {H : Heap} {w : World} (hR : Rep P σ H w) {t ty : TypeId} {ats : Array TypeId} (hat : ats[0]? = some t) {x v : Value} (h : xlenH P H t x = some v) :
    (Builtin.len_ ats ty #[ren σ x]).run P w = .ok v w ∧ clo v = true := by
  unfold xlenH at h
  split at h
  · rename_i kt et hu
    split at h
    · rename_i es hes
      simp only [Option.some.injEq] at h
      subst h
      obtain ⟨me, h1, h2, _⟩ := run_entries hR hes
      have hl : me.size = es.length := by
        have := congrArg List.length h2
        simpa using this
      refine ⟨?_, rfl⟩
      rcases h1 with ⟨e, hm⟩ | ⟨r, clock, e, hr⟩
      · rw [e]
        subst hm
        simp only [Array.size_empty] at hl
        simp [Builtin.len_, hat, is_underlying hu w, goInt, ← hl]
      · rw [e]
        simp [Builtin.len_, hat, is_underlying hu w, run_getObj_map hr, goInt, hl]
    · cases h
  · rename_i dir e r hu
    split at h
    · rename_i cap buf hg
      simp only [Option.some.injEq] at h
      subst h
      obtain ⟨s, r', hobj⟩ := hR.obj _ _ hg
      refine ⟨?_, rfl⟩
      have hget : (getObj (σ r).blk).run P w = .ok (.chan cap ⟨buf.map (ren σ)⟩ false s r' false) w := by simp [getObj, Sem.run, hobj]
      simp [Builtin.len_, hat, ren, is_underlying hu w, hget, goInt]
    · cases h
  · cases h

def xhLen (P : Program) (ρ : Operand → Option Value) (H : Heap) (args : Array Operand) (ats : Array TypeId) : Option (Value × Heap) := match xlist ρ args.toList, ats[0]? with
  | some [x], some t => match xlenH P H t x with
    | some v => some (v, H)
    | none => none
  | _, _ => none
def xhCall (P : Program) (ρ : Operand → Option Value) (H : Heap) (c : Call) : Option (Value × Heap) := match c.callee with
  | .builtin .append => xhAppend P ρ H c.args c.argTypes
  | .builtin .clear => xhClear P ρ H c.args c.argTypes
  | .builtin .len => xhLen P ρ H c.args c.argTypes
  | _ => none

def xheap (P : Program) (ρ : Operand → Option Value) (H : Heap) (o : Oper) : Option (Value × Heap) :=
  match o.op with
  | .load t x => xhLoad P ρ H t x
  | .store t x y => xhStore P ρ H t x y
  | .alloc t => xalloc P H t
  | .box t x => xhBox ρ H t x
  | .buildSlice t len parts => xhBuildSlice P ρ H t len parts
  | .makeSlice t l c => xhMakeSlice P ρ H t l c
  | .makeMap t r => xhMakeMap P ρ H t r
  | .makeChan t s => xhMakeChan P ρ H t s
  | .slice t x lo hi mx => xhSlice P ρ H t x lo hi mx
  | .lookup t x k ok => xhLookup P ρ H t x k ok
  | .mapUpdate t m k v => xhMapUpdate P ρ H t m k v
  | .insert t m k v => xhMapUpdate P ρ H t m k v
  | .convert s d x => xhConv P ρ H s d x
  | .call c => xhCall P ρ H c
  | _ => none

/-- Is it one of those that touch no memory? -/
def memOp : Op → Bool
  | .load _ _ => true
  | .store _ _ _ => true
  | .alloc _ => true
  | .box _ _ => true
  | .buildSlice _ _ _ => true
  | .makeSlice _ _ _ => true
  | .makeMap _ _ => true
  | .makeChan _ _ => true
  | .slice _ _ _ _ _ => true
  | .lookup _ _ _ _ => true
  | .mapUpdate _ _ _ _ => true
  | .insert _ _ _ _ => true
  | _ => false

def xop (P : Program) (ρ : Operand → Option Value) (H : Heap) (o : Oper) : Option (Value × Heap) :=
  match memOp o.op with
  | true => xheap P ρ H o
  | false => match xpure P ρ o with
    | some v => some (v, H)
    | none => xheap P ρ H o

/-- What an operation does: its run in the model. -/
def DoesN (P : Program) (σ : Sig) (H : Heap) (w : World) (m : Sem Next) (v : Value) (H' : Heap) : Prop :=
  ∃ σ' w' r, m.run P w = .ok r w' ∧ (r = .value (ren σ' v) ∨ (r = .skip ∧ v = undef)) ∧ Rep P σ' H' w' ∧ Stp σ H w σ' H' w' ∧ Stab H'.next v

theorem Does.next {P : Program} {σ : Sig} {H H' : Heap} {w : World} {m : Sem Value} {v : Value} (h : Does P σ H w m v H') :
    DoesN P σ H w (do pure (Next.value (← m))) v H' := by
  obtain ⟨σ', w', h1, h2, h3, h4⟩ := h
  exact ⟨σ', w', _, by rw [Sem.run_bind, h1]; rfl, .inl rfl, h2, h3, h4⟩

theorem DoesN.skip {P : Program} {σ : Sig} {H H' : Heap} {w : World} {m : Sem Unit} (h : ∃ w', m.run P w = .ok () w' ∧ Rep P σ H' w' ∧ Stp σ H w σ H' w' ∧ H'.next = H.next) :
    DoesN P σ H w (do m; pure Next.skip) undef H' := by
  obtain ⟨w', h1, h2, h3, _⟩ := h
  exact ⟨σ, w', _, by rw [Sem.run_bind, h1]; rfl, .inr ⟨rfl, rfl⟩, h2, h3, Stab.clo rfl⟩

theorem xlist_mem {ρ : Operand → Option Value} {Q : Value → Prop} (hρ : ∀ x y, ρ x = some y → Q y) : ∀ (l : List Operand) (vs : List Value), xlist ρ l = some vs → ∀ v ∈ vs, Q v := by
  intro l
  induction l with
  | nil => intro vs h v hv; simp only [xlist, Option.some.injEq] at h; subst h; cases hv
  | cons x l ih =>
    intro vs h v hv
    simp only [xlist] at h
    split at h
    · rename_i u hu
      split at h
      · rename_i us hus
        simp only [Option.some.injEq] at h
        subst h
        rcases List.mem_cons.1 hv with rfl | hv
        · exact hρ _ _ hu
        · exact ih _ hus v hv
      · simp at h
    · simp at h
theorem xparts_mem {ρ : Operand → Option Value} {Q : Value → Prop} (hρ : ∀ x y, ρ x = some y → Q y) : ∀ (l : List (Nat × Operand)) (vs : List (Nat × Value)), xparts ρ l = some vs → ∀ v ∈ vs, Q v.2 := by
  intro l
  induction l with
  | nil => intro vs h v hv; simp only [xparts, Option.some.injEq] at h; subst h; cases hv
  | cons x l ih =>
    obtain ⟨i, x⟩ := x
    intro vs h v hv
    simp only [xparts] at h
    split at h
    · rename_i u hu
      split at h
      · rename_i us hus
        simp only [Option.some.injEq] at h
        subst h
        rcases List.mem_cons.1 hv with rfl | hv
        · exact hρ _ _ hu
        · exact ih _ hus v hv
      · simp at h
    · simp at h

theorem does_heap {P : Program} {ρ : Operand → Option Value} {ρr : Operand → Value} {σ : Sig} {H H' : Heap} {w : World} {o : Oper} {v : Value}
    (hρ : ∀ x y, ρ x = some y → ρr x = ren σ y) (hst : ∀ x y, ρ x = some y → Stab H.next y) (hR : Rep P σ H w) (h : xheap P ρ H o = some (v, H')) :
    DoesN P σ H w (execOp ρr o) v H' := by
  unfold xheap at h
  unfold execOp
  split at h
  · rename_i t x he
    simp only [he]
    unfold xhLoad at h
    split at h
    · rename_i a ha
      split at h
      · rename_i u hu
        simp only [Option.some.injEq, Prod.mk.injEq] at h
        obtain ⟨rfl, rfl⟩ := h
        rw [hρ _ _ ha]
        obtain ⟨h1, h2⟩ := run_xload hR hu
        exact (Does.same hR h1 h2).next
      · simp at h
    · simp at h
  · rename_i t x y he
    simp only [he]
    unfold xhStore at h
    split at h
    · rename_i a b ha hb
      split at h
      · rename_i H1 hu
        simp only [Option.some.injEq, Prod.mk.injEq] at h
        obtain ⟨rfl, rfl⟩ := h
        rw [hρ _ _ ha, hρ _ _ hb]
        exact DoesN.skip (run_xstore hR hu (hst _ _ hb))
      · simp at h
    · simp at h
  · rename_i t he
    simp only [he]
    exact (does_alloc hR h).does.next
  · rename_i t x he
    simp only [he]
    unfold xhBox at h
    split at h
    · rename_i a ha
      simp only [Option.some.injEq] at h
      rw [hρ _ _ ha]
      have := does_box hR (t := t) (hst _ _ ha)
      rw [h] at this
      exact this.does.next
    · simp at h
  · rename_i t len parts he
    simp only [he]
    unfold xhBuildSlice at h
    split at h
    · rename_i l hl
      have hp := xparts_ren hρ _ _ hl
      have e : parts.map (fun x => (x.1, ρr x.2)) = (l.map fun p => (p.1, ren σ p.2)).toArray := by
        rw [← hp, ← Array.toList_map]
      have e2 : (parts.map fun (i, x) => (i, ρr x)) = (l.map fun p => (p.1, ren σ p.2)).toArray := e
      rw [e2]
      exact (does_buildSlice hR h (xparts_mem hst _ _ hl)).does.next
    · simp at h
  · rename_i t l c he
    simp only [he]
    unfold xhMakeSlice at h
    split at h
    · rename_i a b ha hb
      rw [hρ _ _ ha, hρ _ _ hb]
      exact (does_makeSlice hR h).does.next
    · simp at h
  · rename_i t r he
    simp only [he]
    unfold xhMakeMap at h
    split at h
    · rename_i r' hr
      rw [xoptv_ren hρ hr]
      exact (does_makeMap hR h).does.next
    · simp at h
  · rename_i t s he
    simp only [he]
    unfold xhMakeChan at h
    split at h
    · rename_i a ha
      rw [hρ _ _ ha]
      exact (does_makeChan hR h).does.next
    · simp at h
  · rename_i t x lo hi mx he
    simp only [he]
    unfold xhSlice at h
    split at h
    · rename_i a l hh m ha hl hh' hm
      rw [hρ _ _ ha, xoptv_ren hρ hl, xoptv_ren hρ hh', xoptv_ren hρ hm]
      exact (does_slice hR h (hst _ _ ha)).next
    · simp at h
  · rename_i t x k ok he
    simp only [he]
    unfold xhLookup at h
    split at h
    · rename_i a b ha hb
      split at h
      · rename_i u hu
        simp only [Option.some.injEq, Prod.mk.injEq] at h
        obtain ⟨rfl, rfl⟩ := h
        rw [hρ _ _ ha, hρ _ _ hb]
        obtain ⟨h1, h2⟩ := run_xlookup hR hu
        exact (Does.same hR h1 h2).next
      · simp at h
    · simp at h
  · rename_i t m k x he
    simp only [he]
    unfold xhMapUpdate at h
    split at h
    · rename_i a b c ha hb hc
      split at h
      · rename_i H1 hu
        simp only [Option.some.injEq, Prod.mk.injEq] at h
        obtain ⟨rfl, rfl⟩ := h
        rw [hρ _ _ ha, hρ _ _ hb, hρ _ _ hc]
        exact DoesN.skip (run_xmapUpdate hR hu (hst _ _ hc))
      · simp at h
    · simp at h
  · rename_i t m k x he
    simp only [he]
    unfold xhMapUpdate at h
    split at h
    · rename_i a b c ha hb hc
      split at h
      · rename_i H1 hu
        simp only [Option.some.injEq, Prod.mk.injEq] at h
        obtain ⟨rfl, rfl⟩ := h
        rw [hρ _ _ ha, hρ _ _ hb, hρ _ _ hc]
        exact DoesN.skip (run_xmapUpdate hR hu (hst _ _ hc))
      · simp at h
    · simp at h
  · rename_i s d x he
    simp only [he]
    unfold xhConv at h
    split at h
    · rename_i a ha
      split at h
      · rename_i u hu
        simp only [Option.some.injEq, Prod.mk.injEq] at h
        obtain ⟨rfl, rfl⟩ := h
        rw [hρ _ _ ha]
        obtain ⟨h1, h2⟩ := run_xstring hR hu
        exact (Does.same hR (by rw [h1, ren_clo σ _ h2]) (Stab.clo h2)).next
      · simp at h
    · simp at h
  · rename_i c he
    simp only [he]
    unfold xhCall at h
    split at h
    · rename_i hcal
      unfold xhAppend at h
      split at h
      · rename_i l hl
        have e : c.args.map ρr = ⟨l.map (ren σ)⟩ := by rw [← xlist_ren hρ _ _ hl, ← Array.toList_map]
        simp only [resolve, hcal, e]
        exact (does_append hR h (xlist_mem hst _ _ hl)).next
      · simp at h
    · rename_i hcal
      unfold xhClear at h
      split at h
      · rename_i x t hl ht
        split at h
        · rename_i H1 hu
          simp only [Option.some.injEq, Prod.mk.injEq] at h
          obtain ⟨rfl, rfl⟩ := h
          have e : c.args.map ρr = ⟨[x].map (ren σ)⟩ := by rw [← xlist_ren hρ _ _ hl, ← Array.toList_map]
          simp only [resolve, hcal, e]
          exact (does_clear hR ht hu).next
        · simp at h
      · simp at h
    · rename_i hcal
      unfold xhLen at h
      split at h
      · rename_i x t hl ht
        split at h
        · rename_i u hu
          simp only [Option.some.injEq, Prod.mk.injEq] at h
          obtain ⟨rfl, rfl⟩ := h
          have e : c.args.map ρr = ⟨[x].map (ren σ)⟩ := by rw [← xlist_ren hρ _ _ hl, ← Array.toList_map]
          simp only [resolve, hcal, e]
          obtain ⟨h1, h2⟩ := run_xlenH (ty := o.type) hR ht hu
          exact (Does.same hR (by rw [ren_clo σ _ h2]; exact h1) (Stab.clo h2)).next
        · simp at h
      · simp at h
    · simp at h
  · simp at h

theorem stab_pure {P : Program} {ρ : Operand → Option Value} {n : Nat} {o : Oper} {v : Value} (hst : ∀ x y, ρ x = some y → Stab n y) (h : xpure P ρ o = some v) : Stab n v := by
  intro σ σ' hs
  let ρr : Sig → Operand → Value := fun τ x => match ρ x with
    | some y => ren τ y
    | none => undef
  have he : ρr σ = ρr σ' := by
    funext x
    show (match ρ x with | some y => ren σ y | none => undef) = (match ρ x with | some y => ren σ' y | none => undef)
    cases hx : ρ x with
    | none => rfl
    | some y => exact hst x y hx σ σ' hs
  have h1 : ∀ τ, Is P (execOp (ρr τ) o) (.value (ren τ v)) := fun τ => is_pure (fun x y hx => by
    show (match ρ x with | some y => ren τ y | none => undef) = ren τ y
    rw [hx]) h
  have a := h1 σ default
  have b := h1 σ' default
  rw [he, b] at a
  simp only [Result.ok.injEq, Next.value.injEq, and_true] at a
  exact a.symm

theorem does_op {P : Program} {ρ : Operand → Option Value} {ρr : Operand → Value} {σ : Sig} {H H' : Heap} {w : World} {o : Oper} {v : Value}
    (hρ : ∀ x y, ρ x = some y → ρr x = ren σ y) (hst : ∀ x y, ρ x = some y → Stab H.next y) (hR : Rep P σ H w) (h : xop P ρ H o = some (v, H')) :
    DoesN P σ H w (execOp ρr o) v H' := by
  unfold xop at h
  split at h
  · exact does_heap hρ hst hR h
  · split at h
    · rename_i u hu
      simp only [Option.some.injEq, Prod.mk.injEq] at h
      obtain ⟨rfl, rfl⟩ := h
      exact ⟨σ, w, _, is_pure hρ hu w, .inl rfl, hR, Stp.refl _ _ _, stab_pure hst hu⟩
    · exact does_heap hρ hst hR h

end
end Go.Proofs.YtibeinbfhhoeiaaGreatDoor.Ab

namespace Go.Proofs.YtibeinbfhhoeiaaGreatDoor.Ab
open Go
noncomputable section

/-- What recover finds: nothing is asked (an ordinary call) · the caller returns · it panics with a value (that has been recovered?). -/
inductive RC where
  | norm
  | ret
  | pan (v : Value) (recd : Bool)

abbrev Dl := List (FuncId × List Value)

inductive Out where
  | none
  | normal (F : Fr) (D : Dl) (H : Heap) (rc : RC)
  | exit (id : Nat) (F : Fr) (D : Dl) (H : Heap) (rc : RC)
  | ret (F : Fr) (D : Dl) (H : Heap) (rc : RC)
  | panic (v : Value) (F : Fr) (D : Dl) (H : Heap) (rc : RC)

inductive OpR where
  | none
  | val (v : Value) (D : Dl) (H : Heap) (rc : RC)
  | panic (v : Value) (H : Heap)

inductive AEnd where
  | none
  | ret (v : Value) (H : Heap)
  | panic (v : Value) (H : Heap)

/-- The interpreter, one level down. -/
structure Rec where
  code : Nat → Code → Fr → Dl → Heap → RC → Out
  ops : Nat → Array Oper → List Oper → Fr → Dl → Heap → RC → Out
  call : FuncId → List Value → Heap → AEnd
  dcall : FuncId → List Value → Heap → RC → Option (Heap × RC)
  defers : Func → Fr → Dl → RC → Heap → AEnd

def Rec.none : Rec := ⟨fun _ _ _ _ _ _ => .none, fun _ _ _ _ _ _ _ => .none, fun _ _ _ => .none, fun _ _ _ _ => .none, fun _ _ _ _ _ => .none⟩

def nth {α : Type} : Nat → List α → Option α
  | _, [] => none
  | 0, a :: _ => some a
  | n + 1, _ :: l => nth n l

/-- Is an operation's turn to be taken? -/
def guardB (ops : Array Oper) (F : Fr) (g : Option (Nat × Bool)) : Option Bool := match g with
  | none => some true
  | some (j, want) => match nth j ops.toList with
    | some o => match o.dst with
      | some d => match F.get d with
        | some (.bool b) => some (b == want)
        | some _ => some false
        | none => none
      | none => none
    | none => none

def callee (fo : Value) (args : List Value) : Option (FuncId × List Value) := match fo with
  | .func (.func f) first captured => some (f, first.toList ++ args ++ captured.toList)
  | _ => none

/-- A select of receives with a default: the first case that holds something, if no other one does; -1: none. -/
def chanHead (H : Heap) (x : Value) : Option (Option (Nat × Nat × Value × List Value)) := match x with
  | .chan (some c) => match H.get c with
    | some (.chan cap (v :: l)) => some (some (c, cap, v, l))
    | some (.chan _ []) => some none
    | _ => none
  | _ => none

def xselect1 (P : Program) (ρ : Operand → Option Value) (H : Heap) (cases : List SelectCase) (blocking : Bool) : Option (Value × Heap) :=
  match cases, blocking with
  | [c], false => match c.send, ρ c.chan, xzero P c.elem with
    | none, some x, some z => match chanHead H x with
      | some (some (r, cap, v, l)) => some (.tuple #[.int .i64 0, .bool true, v], H.set r (.chan cap l))
      | some none => some (.tuple #[.int .i64 (-1), .bool false, z], H)
      | none => none
    | _, _, _ => none
  | _, _ => none

def xsend (H : Heap) (x v : Value) : Option Heap := match x with
  | .chan (some c) => match H.get c with
    | some (.chan cap l) => match Nat.blt l.length cap with
      | true => some (H.set c (.chan cap (l ++ [v])))
      | false => none
    | _ => none
  | _ => none

def soHeap (x : Option (Value × Heap)) (D : Dl) (rc : RC) : OpR := match x with
  | some (v, H') => .val v D H' rc
  | none => .none
def soPure (x : Option Value) (D : Dl) (H : Heap) (rc : RC) : OpR := match x with
  | some v => .val v D H rc
  | none => .none
def soConv (P : Program) (ρ : Operand → Option Value) (s d : TypeId) (x : Operand) (D : Dl) (H : Heap) (rc : RC) : OpR := match xpConv P ρ s d x with
  | some v => .val v D H rc
  | none => soHeap (xhConv P ρ H s d x) D rc
def soEnd (x : AEnd) (D : Dl) (rc : RC) : OpR := match x with
  | .none => .none
  | .ret v H => .val v D H rc
  | .panic v H => .panic v H
def soEnter (r : Rec) (x : Option (FuncId × List Value)) (D : Dl) (H : Heap) (rc : RC) : OpR := match x with
  | some (f, l) => soEnd (r.call f l H) D rc
  | none => .none
def soValue (r : Rec) (ρ : Operand → Option Value) (fo : Operand) (args : Array Operand) (D : Dl) (H : Heap) (rc : RC) : OpR := match ρ fo with
  | some f => match xlist ρ args.toList with
    | some l => soEnter r (callee f l) D H rc
    | none => .none
  | none => .none
def soRecover (D : Dl) (H : Heap) (rc : RC) : OpR := match rc with
  | .norm => .none
  | .ret => .val .nilIface D H .ret
  | .pan v false => .val v D H (.pan v true)
  | .pan v true => .val .nilIface D H (.pan v true)
def soLen (P : Program) (ρ : Operand → Option Value) (c : Call) (ty : TypeId) (D : Dl) (H : Heap) (rc : RC) : OpR := match xpCall P ρ c ty with
  | some v => .val v D H rc
  | none => soHeap (xhLen P ρ H c.args c.argTypes) D rc
def soBuiltin (P : Program) (ρ : Operand → Option Value) (b : Builtin) (c : Call) (ty : TypeId) (D : Dl) (H : Heap) (rc : RC) : OpR := match b with
  | .recover => soRecover D H rc
  | .append => soHeap (xhAppend P ρ H c.args c.argTypes) D rc
  | .clear => soHeap (xhClear P ρ H c.args c.argTypes) D rc
  | .len => soLen P ρ c ty D H rc
  | _ => soPure (xpCall P ρ c ty) D H rc
def soCall (P : Program) (r : Rec) (ρ : Operand → Option Value) (c : Call) (ty : TypeId) (D : Dl) (H : Heap) (rc : RC) : OpR := match c.callee with
  | .value fo => soValue r ρ fo c.args D H rc
  | .builtin b => soBuiltin P ρ b c ty D H rc
  | _ => .none
def soDefer (ρ : Operand → Option Value) (c : Call) (D : Dl) (H : Heap) (rc : RC) : OpR := match c.callee with
  | .value fo => match ρ fo, xlist ρ c.args.toList with
    | some f, some l => match callee f l with
      | some x => .val undef (x :: D) H rc
      | none => .none
    | _, _ => .none
  | _ => .none
def soPanic (x : Option Value) (H : Heap) : OpR := match x with
  | some (.iface t v) => .panic (.iface t v) H
  | _ => .none
def soSend (ρ : Operand → Option Value) (c x : Operand) (D : Dl) (H : Heap) (rc : RC) : OpR := match ρ c, ρ x with
  | some a, some b => match xsend H a b with
    | some H' => .val undef D H' rc
    | none => .none
  | _, _ => .none

def opFn (op : Op) : Program → Rec → TypeId → Fr → Dl → Heap → RC → OpR := match op with
  | .move x => fun P _ _ F D H rc => soPure (F.ev P x) D H rc
  | .assign x => fun P _ _ F D H rc => soPure (F.ev P x) D H rc
  | .pick c a b => fun P _ _ F D H rc => soPure (xpPick (F.ev P) c a b) D H rc
  | .build t parts => fun P _ _ F D H rc => soPure (xpBuild P (F.ev P) t parts) D H rc
  | .nilCheck x => fun P _ _ F D H rc => soPure (xpNil (F.ev P) x) D H rc
  | .binOp op t x y _ => fun P _ _ F D H rc => soPure (xpBin P (F.ev P) op t x y) D H rc
  | .unOp op _ x => fun P _ _ F D H rc => soPure (xpUn P (F.ev P) op x) D H rc
  | .makeInterface t x => fun P _ _ F D H rc => soPure (xpIface P (F.ev P) t x) D H rc
  | .makeFunc fn first captured => fun P _ _ F D H rc => soPure (xpFunc (F.ev P) fn first captured) D H rc
  | .fieldAddr t x i => fun P _ _ F D H rc => soPure (xpFieldAddr P (F.ev P) t x i) D H rc
  | .field t x i => fun P _ _ F D H rc => soPure (xpField P (F.ev P) t x i) D H rc
  | .indexAddr t x ix => fun P _ _ F D H rc => soPure (xpIndexAddr P (F.ev P) t x ix) D H rc
  | .index t x ix => fun P _ _ F D H rc => soPure (xpIndex P (F.ev P) t x ix) D H rc
  | .typeAssert x _ asserted ok => fun P _ _ F D H rc => soPure (xpAssert P (F.ev P) x asserted ok) D H rc
  | .extract x i => fun P _ _ F D H rc => soPure (xpExtract (F.ev P) x i) D H rc
  | .convert s d x => fun P _ _ F D H rc => soConv P (F.ev P) s d x D H rc
  | .load t x => fun P _ _ F D H rc => soHeap (xhLoad P (F.ev P) H t x) D rc
  | .store t x y => fun P _ _ F D H rc => soHeap (xhStore P (F.ev P) H t x y) D rc
  | .alloc t => fun P _ _ _ D H rc => soHeap (xalloc P H t) D rc
  | .box t x => fun P _ _ F D H rc => soHeap (xhBox (F.ev P) H t x) D rc
  | .buildSlice t len parts => fun P _ _ F D H rc => soHeap (xhBuildSlice P (F.ev P) H t len parts) D rc
  | .makeSlice t l c => fun P _ _ F D H rc => soHeap (xhMakeSlice P (F.ev P) H t l c) D rc
  | .makeMap t x => fun P _ _ F D H rc => soHeap (xhMakeMap P (F.ev P) H t x) D rc
  | .makeChan t s => fun P _ _ F D H rc => soHeap (xhMakeChan P (F.ev P) H t s) D rc
  | .slice t x lo hi mx => fun P _ _ F D H rc => soHeap (xhSlice P (F.ev P) H t x lo hi mx) D rc
  | .lookup t x k ok => fun P _ _ F D H rc => soHeap (xhLookup P (F.ev P) H t x k ok) D rc
  | .mapUpdate t m k v => fun P _ _ F D H rc => soHeap (xhMapUpdate P (F.ev P) H t m k v) D rc
  | .insert t m k v => fun P _ _ F D H rc => soHeap (xhMapUpdate P (F.ev P) H t m k v) D rc
  | .call c => fun P r ty F D H rc => soCall P r (F.ev P) c ty D H rc
  | .defer c => fun P _ _ F D H rc => soDefer (F.ev P) c D H rc
  | .panic x => fun P _ _ F _ H _ => soPanic (F.ev P x) H
  | .send c x => fun P _ _ F D H rc => soSend (F.ev P) c x D H rc
  | .select cases blocking => fun P _ _ F D H rc => soHeap (xselect1 P (F.ev P) H cases.toList blocking) D rc
  | _ => fun _ _ _ _ _ _ _ => .none

def stepOp (P : Program) (r : Rec) (o : Oper) (F : Fr) (D : Dl) (H : Heap) (rc : RC) : OpR := opFn o.op P r o.type F D H rc

def soNext (r : Rec) (n : Nat) (ops : Array Oper) (rest : List Oper) (dst : Option Tmp) (v : Value) (F : Fr) (D : Dl) (H : Heap) (rc : RC) : Out := match dst with
  | some d => match Nat.ble n d with
    | true => .none
    | false => r.ops n ops rest (F.set d v) D H rc
  | none => r.ops n ops rest F D H rc
def soThen (r : Rec) (n : Nat) (ops : Array Oper) (rest : List Oper) (dst : Option Tmp) (F : Fr) (D : Dl) (rc : RC) (x : OpR) : Out := match x with
  | .val v D H rc => soNext r n ops rest dst v F D H rc
  | .panic v H => .panic v F D H rc
  | .none => .none
def stepOps (P : Program) (r : Rec) (n : Nat) (ops : Array Oper) (l : List Oper) (F : Fr) (D : Dl) (H : Heap) (rc : RC) : Out := match l with
  | [] => .normal F D H rc
  | o :: rest => match guardB ops F o.guard with
    | some true => soThen r n ops rest o.dst F D rc (stepOp P r o F D H rc)
    | some false => soNext r n ops rest o.dst undef F D H rc
    | none => .none

/- ## regions whose order is drawn -/
inductive Cl where
  | pure
  | read
  | conv
  | fresh
  | effect
  | call
  | other

def clOf : Op → Cl
  | .load _ _ => .read
  | .lookup _ _ _ _ => .read
  | .slice _ _ _ _ _ => .read
  | .convert _ _ _ => .conv
  | .alloc _ => .fresh
  | .box _ _ => .fresh
  | .buildSlice _ _ _ => .fresh
  | .makeSlice _ _ _ => .fresh
  | .makeMap _ _ => .fresh
  | .makeChan _ _ => .fresh
  | .store _ _ _ => .effect
  | .mapUpdate _ _ _ _ => .effect
  | .insert _ _ _ _ => .effect
  | .call c => match c.callee with
    | .value _ => .call
    | .builtin .append => .effect
    | .builtin .clear => .effect
    | .builtin .recover => .other
    | .builtin .len => .conv
    | .builtin _ => .pure
    | _ => .other
  | .move _ | .assign _ | .pick _ _ _ | .build _ _ | .nilCheck _ | .binOp _ _ _ _ _ | .unOp _ _ _ | .makeInterface _ _ | .makeFunc _ _ _ | .fieldAddr _ _ _
  | .field _ _ _ | .indexAddr _ _ _ | .index _ _ _ | .typeAssert _ _ _ _ | .extract _ _ => .pure
  | _ => .other

/-- Bit i of m. -/
def bit (m i : Nat) : Bool := Nat.beq (Nat.mod (Nat.shiftRight m i) 2) 1

/-- What a fresh thing is made of. -/
structure Fresh where
  ix : Nat
  id : Nat
  obj : AObj

/-- The heap's things, and those of the fresh ones that it lacks which p names. -/
def viewT (t : Tr AObj) (base : Nat) (p : Nat → Bool) : List Fresh → Tr AObj
  | [] => t
  | a :: l => match Nat.ble base a.id, p a.ix with
    | true, true => (viewT t base p l).set a.id a.obj
    | _, _ => viewT t base p l

/-- Does the mask name all of those that the heap lacks? -/
def covers (base m : Nat) : List Fresh → Bool
  | [] => true
  | a :: l => match Nat.ble base a.id with
    | true => match bit m a.ix with
      | true => covers base m l
      | false => false
    | false => covers base m l

/-- An effect that was done: its place, and the heap that was there before it, but for what is fresh. -/
structure Was where
  ix : Nat
  H : Heap

structure Looked where
  ix : Nat
  o : Oper
  v : Value
  F : Fr

mutual
def veq : Value → Value → Bool
  | .bool a, .bool b => a == b
  | .int k a, .int l b => decide (k = l) && decide (a = b)
  | .string a, .string b => decide (a = b)
  | .pointer a, .pointer b => decide (a = b)
  | .slice a l c, .slice b l' c' => decide (a = b) && Nat.beq l l' && Nat.beq c c'
  | .map a, .map b => decide (a = b)
  | .chan a, .chan b => decide (a = b)
  | .func f a b, .func g c d => decide (f = g) && veqA a c && veqA b d
  | .agg a, .agg b => veqA a b
  | .tuple a, .tuple b => veqA a b
  | .iface t a, .iface u b => Nat.beq t u && veq a b
  | .nilFunc, .nilFunc => true
  | .nilIface, .nilIface => true
  | _, _ => false
def veqA : Array Value → Array Value → Bool
  | ⟨a⟩, ⟨b⟩ => veqL a b
def veqL : List Value → List Value → Bool
  | [], [] => true
  | a :: l, b :: m => veq a b && veqL l m
  | _, _ => false
end

/-- What a look at the heap yields, if it changes nothing. -/
def xlook (P : Program) (ρ : Operand → Option Value) (H : Heap) (o : Oper) : Option Value := match xheap P ρ H o with
  | some (v, H') => match Nat.beq H'.next H.next with
    | true => some v
    | false => none
  | none => none
def looks (P : Program) (ρ : Operand → Option Value) (H : Heap) (o : Oper) (v : Value) : Bool := match xlook P ρ H o with
  | some u => veq u v
  | none => false

/-- Had it been looked at before the effects that it need not wait for: the same? -/
def back (P : Program) (F : Fr) (o : Oper) (v : Value) (m : Nat) (As : List Fresh) (next : Nat) : List Was → Bool
  | [] => true
  | e :: l => match bit m e.ix with
    | true => back P F o v m As next l
    | false => match looks P (F.ev P) ⟨viewT e.H.t e.H.next (bit m) As, next⟩ o v with
      | true => back P F o v m As next l
      | false => false

/-- If it is looked at after an effect that need not wait for it: the same? -/
def forth (P : Program) (H : Heap) (m : Nat) : List Looked → Bool
  | [] => true
  | r :: l => match bit m r.ix with
    | true => forth P H m l
    | false => match looks P (r.F.ev P) H r.o r.v with
      | true => forth P H m l
      | false => false

/-- Are all effects that were done among those that are to be waited for? -/
def chained (m : Nat) : List Was → Bool
  | [] => true
  | e :: l => match bit m e.ix with
    | true => chained m l
    | false => false

structure DS where
  F : Fr
  H : Heap
  As : List Fresh
  next : Nat
  Es : List Was
  Rs : List Looked

def dput (n : Nat) (F : Fr) (dst : Option Tmp) (v : Value) : Option Fr := match dst with
  | some d => match Nat.ble n d with
    | true => none
    | false => some (F.set d v)
  | none => some F

def dRead (P : Program) (n i m : Nat) (o : Oper) (F : Fr) (H : Heap) (As : List Fresh) (next : Nat) (Es : List Was) (Rs : List Looked) : Option DS :=
  match xlook P (F.ev P) ⟨viewT H.t H.next (bit m) As, next⟩ o with
  | some v => match back P F o v m As next Es with
    | true => match dput n F o.dst v with
      | some F' => some ⟨F', H, As, next, Es, ⟨i, o, v, F⟩ :: Rs⟩
      | none => none
    | false => none
  | none => none
def dPure (n : Nat) (o : Oper) (x : Option Value) (F : Fr) (H : Heap) (As : List Fresh) (next : Nat) (Es : List Was) (Rs : List Looked) : Option DS :=
  match x with
  | some v => match dput n F o.dst v with
    | some F' => some ⟨F', H, As, next, Es, Rs⟩
    | none => none
  | none => none
def dFresh (P : Program) (n i : Nat) (o : Oper) (F : Fr) (H : Heap) (As : List Fresh) (next : Nat) (Es : List Was) (Rs : List Looked) : Option DS :=
  match xheap P (F.ev P) ⟨.lf, next⟩ o with
  | some (v, H') => match H'.get next, Nat.beq H'.next (next + 1), dput n F o.dst v with
    | some obj, true, some F' => some ⟨F', H, ⟨i, next, obj⟩ :: As, next + 1, Es, Rs⟩
    | _, _, _ => none
  | none => none
def dEffect (P : Program) (n i m : Nat) (o : Oper) (x : Heap → Option (Value × Heap)) (F : Fr) (H : Heap) (As : List Fresh) (next : Nat) (Es : List Was) (Rs : List Looked) : Option DS :=
  match chained m Es, covers H.next m As with
  | true, true => match x ⟨viewT H.t H.next (bit m) As, next⟩ with
    | some (v, H') => match forth P H' m Rs, dput n F o.dst v, Nat.ble next H'.next with
      | true, some F', true => some ⟨F', H', As, H'.next, ⟨i, H⟩ :: Es, Rs⟩
      | _, _, _ => none
    | none => none
  | _, _ => none
def dEnd (x : OpR) : Option (Value × Heap) := match x with
  | .val v _ H _ => some (v, H)
  | _ => none
def dOp (P : Program) (r : Rec) (n i m : Nat) (o : Oper) (F : Fr) (H : Heap) (As : List Fresh) (next : Nat) (Es : List Was) (Rs : List Looked) : Option DS :=
  match clOf o.op with
  | .pure => dPure n o (xpure P (F.ev P) o) F H As next Es Rs
  | .read => dRead P n i m o F H As next Es Rs
  | .conv => match xpure P (F.ev P) o with
    | some v => dPure n o (some v) F H As next Es Rs
    | none => dRead P n i m o F H As next Es Rs
  | .fresh => dFresh P n i o F H As next Es Rs
  | .effect => dEffect P n i m o (fun H => xheap P (F.ev P) H o) F H As next Es Rs
  | .call => match o.op with
    | .call c => dEffect P n i m o (fun H => dEnd (soCall P r (F.ev P) c o.type [] H .norm)) F H As next Es Rs
    | _ => none
  | .other => none
def dStep (P : Program) (r : Rec) (n : Nat) (ops : Array Oper) (i m : Nat) (o : Oper) (F : Fr) (H : Heap) (As : List Fresh) (next : Nat) (Es : List Was) (Rs : List Looked) : Option DS :=
  match guardB ops F o.guard with
  | some true => dOp P r n i m o F H As next Es Rs
  | some false => dPure n o (some undef) F H As next Es Rs
  | none => none
def dOps (P : Program) (r : Rec) (n : Nat) (ops : Array Oper) : List Oper → List Nat → Nat → DS → Option DS
  | [], _, _, s => some s
  | o :: l, m :: ms, i, s => match dStep P r n ops i m o s.F s.H s.As s.next s.Es s.Rs with
    | some s' => dOps P r n ops l ms (i + 1) s'
    | none => none
  | _ :: _, [], _, _ => none

/- What an operation waits for, and whatever that waits for: a mask each. -/
def maskOf (acc : List Nat) : List Edge → Nat
  | [] => 0
  | e :: l => match Region.binds .any e with
    | true => Nat.lor (Nat.lor (Nat.pow 2 e.on) ((nth e.on acc).getD 0)) (maskOf acc l)
    | false => maskOf acc l
def masksFrom (acc : List Nat) : List Oper → List Nat
  | [] => acc
  | o :: l => masksFrom (acc ++ [maskOf acc o.after.toList]) l
def befores (ops : Array Oper) : List Nat := masksFrom [] ops.toList

/- Are what is read and what is written in order? -/
def tmpOf : Operand → Option Tmp
  | .tmp t => some t
  | _ => none
def guardTmp (ops : Array Oper) (g : Option (Nat × Bool)) : List Tmp := match g with
  | some (j, _) => match nth j ops.toList with
    | some o => o.dst.toList
    | none => []
  | none => []
def readsOf (ops : Array Oper) (o : Oper) : List Tmp := o.op.operands.toList.filterMap tmpOf ++ guardTmp ops o.guard
def memN (d : Nat) : List Nat → Bool
  | [] => false
  | x :: l => match Nat.beq d x with
    | true => true
    | false => memN d l
/-- Operation i, whose mask is m, writes d: no other one does; who reads d, is in order with it. -/
def orderedW (ops : Array Oper) (d m i : Nat) : List Oper → List Nat → Nat → Bool
  | [], _, _ => true
  | o :: l, mj :: ms, j => match Nat.beq i j with
    | true => orderedW ops d m i l ms (j + 1)
    | false => (match o.dst with
        | some d' => !Nat.beq d d'
        | none => true) && (!memN d (readsOf ops o) || (match Nat.ble i j with
        | true => bit mj i
        | false => bit m j)) && orderedW ops d m i l ms (j + 1)
  | _ :: _, [], _ => false
def earlier (i : Nat) : List Edge → Bool
  | [] => true
  | e :: l => (!Region.binds .any e || Nat.blt e.on i) && earlier i l
def orderedAll (ops : Array Oper) (b : List Nat) : List Oper → List Nat → Nat → Bool
  | [], _, _ => true
  | o :: l, m :: ms, i => (match o.dst with
    | some d => orderedW ops d m i ops.toList b 0
    | none => true) && earlier i o.after.toList && orderedAll ops b l ms (i + 1)
  | _ :: _, [], _ => false
def orderly (ops : Array Oper) : Bool := orderedAll ops (befores ops) ops.toList (befores ops) 0

/- ## drawn regions with slices: a turn of their operations in which each either waits for nothing that may run beside it, or only looks at the frame -/
def isSl : Op → Bool
  | .slice _ _ _ _ _ => true
  | _ => false
def bare (o : Oper) : Bool := match o.guard with
  | none => true
  | some _ => false
/-- Looks at the frame alone. -/
def floP (o : Oper) : Bool := match clOf o.op with
  | .pure => true
  | _ => isSl o.op
def heapP (o : Oper) : Bool := match clOf o.op with
  | .read => true
  | .fresh => true
  | .effect => true
  | _ => false
def readyL (done : List Nat) : List Edge → Bool
  | [] => true
  | e :: l => (!Region.binds .any e || memN e.on done) && readyL done l
def waitsFor (i : Nat) : List Edge → Bool
  | [] => false
  | e :: l => (Region.binds .any e && Nat.beq e.on i) || waitsFor i l
def apartB (ops : Array Oper) (x y : Oper) : Bool :=
  (match x.dst with
  | some d => !memN d (readsOf ops y) && (match y.dst with
    | some e => !Nat.beq d e
    | none => true)
  | none => true) && (match y.dst with
  | some d => !memN d (readsOf ops x)
  | none => true)
def freeB (ops : Array Oper) (done : List Nat) (i : Nat) (o : Oper) : List Oper → Nat → Bool
  | [], _ => true
  | p :: l, j => (Nat.beq j i || memN j done || waitsFor i p.after.toList || apartB ops o p) && freeB ops done i o l (j + 1)
def onlyB (done : List Nat) (i : Nat) : List Oper → Nat → Bool
  | [], _ => true
  | p :: l, j => (Nat.beq j i || memN j done || !readyL done p.after.toList) && onlyB done i l (j + 1)
def chTake (ops : Array Oper) (done : List Nat) (i : Nat) : Bool := match nth i ops.toList with
  | some o => !memN i done && readyL done o.after.toList && bare o && (match floP o with
    | true => freeB ops done i o ops.toList 0
    | false => heapP o && onlyB done i ops.toList 0)
  | none => false
def chGood (ops : Array Oper) (done : List Nat) : List Nat → Bool
  | [] => true
  | i :: l => chTake ops done i && chGood ops (i :: done) l
def chFind (ops : Array Oper) : Nat → List Nat → List Nat
  | 0, _ => []
  | k + 1, done => match (List.range ops.toList.length).find? (chTake ops done) with
    | some i => i :: chFind ops k (i :: done)
    | none => []
def anySl : List Oper → Bool
  | [] => false
  | o :: l => match isSl o.op with
    | true => true
    | false => anySl l
def allIn (l : List Nat) : Nat → Bool
  | 0 => true
  | k + 1 => memN k l && allIn l k
def noSel : List Oper → Bool
  | [] => true
  | o :: l => (match o.op with
    | .select _ _ => false
    | _ => true) && noSel l
def chainIf (ops : Array Oper) (L : List Nat) : Option (List Nat) := match chGood ops [] L && allIn L ops.toList.length && Nat.beq L.length ops.toList.length && noSel ops.toList with
  | true => some L
  | false => none
def chainOf (ops : Array Oper) : Option (List Nat) := match anySl ops.toList with
  | false => none
  | true => chainIf ops (chFind ops ops.toList.length [])
def chOp (P : Program) (F : Fr) (H : Heap) (o : Oper) : Option (Value × Heap) := match clOf o.op with
  | .pure => match xpure P (F.ev P) o with
    | some v => some (v, H)
    | none => none
  | _ => xheap P (F.ev P) H o
def chOps (P : Program) (n : Nat) (ops : Array Oper) : List Nat → Fr → Heap → Option (Fr × Heap)
  | [], F, H => some (F, H)
  | i :: l, F, H => match nth i ops.toList with
    | some o => match chOp P F H o with
      | some (v, H') => match dput n F o.dst v with
        | some F' => chOps P n ops l F' H'
        | none => none
      | none => none
    | none => none

def stepDraw (P : Program) (r : Rec) (n : Nat) (ops : Array Oper) (F : Fr) (D : Dl) (H : Heap) (rc : RC) : Out :=
  match P.follows .mixedOrders, orderly ops with
  | true, true => match chainOf ops with
    | some L => match chOps P n ops L F H with
      | some (F', H') => .normal F' D H' rc
      | none => .none
    | none => match dOps P r n ops ops.toList (befores ops) 0 ⟨F, H, [], H.next, [], []⟩ with
      | some s => .normal s.F D ⟨viewT s.H.t s.H.next (fun _ => true) s.As, s.next⟩ rc
      | none => .none
  | _, _ => .none

/- ## code -/
def scSeq (r : Rec) (n : Nat) (b : Code) (x : Out) : Out := match x with
  | .normal F D H rc => r.code n b F D H rc
  | .exit i F D H rc => .exit i F D H rc
  | .ret F D H rc => .ret F D H rc
  | .panic v F D H rc => .panic v F D H rc
  | .none => .none
def scBlock (id : Nat) (x : Out) : Out := match x with
  | .exit i F D H rc => match Nat.beq i id with
    | true => .normal F D H rc
    | false => .exit i F D H rc
  | .normal F D H rc => .normal F D H rc
  | .ret F D H rc => .ret F D H rc
  | .panic v F D H rc => .panic v F D H rc
  | .none => .none
def scCond (r : Rec) (n : Nat) (c : Option Value) (a b : Code) (F : Fr) (D : Dl) (H : Heap) (rc : RC) : Out := match c with
  | some (.bool true) => r.code n a F D H rc
  | some (.bool false) => r.code n b F D H rc
  | _ => .none
def scRegion (P : Program) (r : Rec) (n : Nat) (ops : Array Oper) (draw : Bool) (F : Fr) (D : Dl) (H : Heap) (rc : RC) : Out := match draw with
  | false => r.ops n ops ops.toList F D H rc
  | true => stepDraw P r n ops F D H rc

def codeFn (c : Code) : Program → Rec → Nat → Fr → Dl → Heap → RC → Out := match c with
  | .skip => fun _ _ _ F D H rc => .normal F D H rc
  | .label _ => fun _ _ _ F D H rc => .normal F D H rc
  | .region _ ops draw => fun P r n F D H rc => scRegion P r n ops draw F D H rc
  | .seq a b => fun _ r n F D H rc => scSeq r n b (r.code n a F D H rc)
  | .cond c a b => fun P r n F D H rc => scCond r n ((F.ev P) c) a b F D H rc
  | .block id b => fun _ r n F D H rc => scBlock id (r.code n b F D H rc)
  | .loop b => fun _ r n F D H rc => scSeq r n (.loop b) (r.code n b F D H rc)
  | .exit id => fun _ _ _ F D H rc => .exit id F D H rc
  | .ret => fun _ _ _ F D H rc => .ret F D H rc
  | _ => fun _ _ _ _ _ _ _ => .none

def stepCode (P : Program) (r : Rec) (n : Nat) (c : Code) (F : Fr) (D : Dl) (H : Heap) (rc : RC) : Out := codeFn c P r n F D H rc

/- ## calls -/
def putArgs : Nat → List Value → Fr → Fr
  | _, [], F => F
  | i, v :: l, F => putArgs (i + 1) l (F.set i v)

def xresult (P : Program) (H : Heap) (F : Fr) : ResultVar → Option Value
  | .tmp t => F.get t
  | .cell a t => match F.get a with
    | some (.pointer (some p)) => xload P H t (.pointer (some p))
    | _ => none
def xresultL (P : Program) (H : Heap) (F : Fr) : List ResultVar → Option (List Value)
  | [] => some []
  | x :: l => match xresult P H F x with
    | some v => match xresultL P H F l with
      | some vs => some (v :: vs)
      | none => none
    | none => none
def xresults (P : Program) (H : Heap) (F : Fr) (l : List ResultVar) : Option Value := match xresultL P H F l with
  | some [v] => some v
  | some vs => some (.tuple ⟨vs⟩)
  | none => none

/-- A function with a body that is no stand-in's. -/
def enters (P : Program) (f : FuncId) : Option (Func × Code) := match P.funcs[f]? with
  | some fn => match fn.body, fn.name == "runtime.NumGoroutine" with
    | some c, false => some (fn, c)
    | _, _ => none
  | none => none

def scLeave (r : Rec) (fn : Func) (x : Out) : AEnd := match x with
  | .normal F D H _ => r.defers fn F D .ret H
  | .ret F D H _ => r.defers fn F D .ret H
  | .panic v F D H _ => r.defers fn F D (.pan v false) H
  | _ => .none

def stepCall (P : Program) (r : Rec) (hk : FuncId → Option (List Value → Heap → AEnd)) (f : FuncId) (args : List Value) (H : Heap) : AEnd :=
  match hk f with
  | some g => g args H
  | none => match enters P f with
    | some (fn, c) => match Nat.ble args.length fn.ntmps with
      | true => scLeave r fn (r.code fn.ntmps c (putArgs 0 args .lf) [] H .norm)
      | false => .none
    | none => .none

def settleRC : RC → RC
  | .pan _ true => .ret
  | m => m

def stepDefers (P : Program) (r : Rec) (fn : Func) (F : Fr) (D : Dl) (m : RC) (H : Heap) : AEnd := match D with
  | [] => match m with
    | .ret => match xresults P H F fn.results.toList with
      | some v => .ret v H
      | none => .none
    | .pan v false => .panic v H
    | _ => .none
  | (f, l) :: ds => match r.dcall f l H m with
    | some (H', m') => r.defers fn F ds (settleRC m') H'
    | none => .none

def scKeep (H : Heap) (rc : RC) : Option (Heap × RC) := match rc with
  | .norm => none
  | rc => some (H, rc)
def scDone (x : Out) : Option (Heap × RC) := match x with
  | .normal _ [] H rc => scKeep H rc
  | .ret _ [] H rc => scKeep H rc
  | _ => none

def stepDcall (P : Program) (r : Rec) (f : FuncId) (args : List Value) (H : Heap) (m : RC) : Option (Heap × RC) := match m with
  | .norm => none
  | _ => match enters P f with
    | some (fn, c) => match Nat.ble args.length fn.ntmps, fn.results.toList with
      | true, [] => scDone (r.code fn.ntmps c (putArgs 0 args .lf) [] H m)
      | _, _ => none
    | none => none

def stepRec (P : Program) (hk : FuncId → Option (List Value → Heap → AEnd)) (r : Rec) : Rec :=
  { code := fun n c F D H rc => stepCode P r n c F D H rc
    ops := fun n ops l F D H rc => stepOps P r n ops l F D H rc
    call := fun f args H => stepCall P r hk f args H
    dcall := fun f args H m => stepDcall P r f args H m
    defers := fun fn F D m H => stepDefers P r fn F D m H }

def run (P : Program) (hk : FuncId → Option (List Value → Heap → AEnd)) (n : Nat) : Rec := Nat.rec (motive := fun _ => Rec) Rec.none (fun _ r => stepRec P hk r) n

end
end Go.Proofs.YtibeinbfhhoeiaaGreatDoor.Ab

/- Walking code with symbolic values, 4: one step. Walking code with symbolic values, 5: a step of code; functions, what they promise; calls. Walking code with symbolic values, 6: ends; what is frozen; the heads of loops. -/
import Derived.Test.YtibeinbfhhoeiaaGreatDoorZJ1
namespace Go.Proofs.YtibeinbfhhoeiaaGreatDoor.Ab
open Go
noncomputable section

theorem addr_add (id off k : Nat) : (⟨id, off, none⟩ : Addr).add k = ⟨id, off + k, none⟩ := by
  unfold Addr.add
  split
  · rename_i e; rw [e]; rfl
  · rfl
theorem wrap_u8 {x : Int} (h : 0 ≤ x ∧ x ≤ 255) : IntKind.u8.wrap x = x := by
  unfold IntKind.wrap
  simp [IntKind.bits, IntKind.signed]
  omega
theorem quo_peel {P : Program} {t : TypeId} {x y : Operand} {p q : Int} (h : q ≠ 0) : peel P (do eqGuard .quo t x y (.int .i64 p) (.int .i64 q); binOp .quo t (.int .i64 p) (.int .i64 q)) = some (.int .i64 (IntKind.i64.wrap (p.tdiv q))) := by
  have : (do eqGuard .quo t x y (.int .i64 p) (.int .i64 q); binOp .quo t (.int .i64 p) (.int .i64 q)) = (pure (.int .i64 (IntKind.i64.wrap (p.tdiv q))) : Sem Value) := by
    simp [eqGuard, binOp, Op.intDiv, h]
  rw [this]
  rfl
theorem wrap_rng {x : Int} (h : Rng x) : IntKind.i64.wrap x = x := IntWalk.i64_in _ ⟨h.lo, h.hi⟩

section
variable (P : Program) (hk : FuncId → Option (List Value → Heap → AEnd)) (T : TT) (n : Nat) (Q : LPost) (K : List KI) (D : Dl) (M : Imm) (L : List Seg) (rc : RC) (a : Array Oper) (rest : List Oper) (E : Env)

/-- Two values. -/
inductive BinJ (d : Tmp) : BinOp → TypeId → Value → Value → Prop where
  | addI {t x y} : Rng (x + y) → J P hk n Q (.ops a rest :: K) ((d, .int .i64 (x + y)) :: E) D M L rc → BinJ d .add t (.int .i64 x) (.int .i64 y)
  | subI {t x y} : Rng (x - y) → J P hk n Q (.ops a rest :: K) ((d, .int .i64 (x - y)) :: E) D M L rc → BinJ d .sub t (.int .i64 x) (.int .i64 y)
  | quoI {t x y} : decide (y = 0) = false → Rng (x.tdiv y) → J P hk n Q (.ops a rest :: K) ((d, .int .i64 (x.tdiv y)) :: E) D M L rc → BinJ d .quo t (.int .i64 x) (.int .i64 y)
  | subB {t x y} : 0 ≤ x - y ∧ x - y ≤ 255 → J P hk n Q (.ops a rest :: K) ((d, .int .u8 (x - y)) :: E) D M L rc → BinJ d .sub t (.int .u8 x) (.int .u8 y)
  | mulI {t x y} : Rng (x * y) → J P hk n Q (.ops a rest :: K) ((d, .int .i64 (x * y)) :: E) D M L rc → BinJ d .mul t (.int .i64 x) (.int .i64 y)
  | ltI {t k x y} : (x < y → J P hk n Q (.ops a rest :: K) ((d, .bool true) :: E) D M L rc) → (¬ x < y → J P hk n Q (.ops a rest :: K) ((d, .bool false) :: E) D M L rc) → BinJ d .lss t (.int k x) (.int k y)
  | leI {t k x y} : (x ≤ y → J P hk n Q (.ops a rest :: K) ((d, .bool true) :: E) D M L rc) → (¬ x ≤ y → J P hk n Q (.ops a rest :: K) ((d, .bool false) :: E) D M L rc) → BinJ d .leq t (.int k x) (.int k y)
  | gtI {t k x y} : (y < x → J P hk n Q (.ops a rest :: K) ((d, .bool true) :: E) D M L rc) → (¬ y < x → J P hk n Q (.ops a rest :: K) ((d, .bool false) :: E) D M L rc) → BinJ d .gtr t (.int k x) (.int k y)
  | geI {t k x y} : (y ≤ x → J P hk n Q (.ops a rest :: K) ((d, .bool true) :: E) D M L rc) → (¬ y ≤ x → J P hk n Q (.ops a rest :: K) ((d, .bool false) :: E) D M L rc) → BinJ d .geq t (.int k x) (.int k y)
  | eqI {t k x y} : (x = y → J P hk n Q (.ops a rest :: K) ((d, .bool true) :: E) D M L rc) → (x ≠ y → J P hk n Q (.ops a rest :: K) ((d, .bool false) :: E) D M L rc) → BinJ d .eql t (.int k x) (.int k y)
  | neI {t k x y} : (x = y → J P hk n Q (.ops a rest :: K) ((d, .bool false) :: E) D M L rc) → (x ≠ y → J P hk n Q (.ops a rest :: K) ((d, .bool true) :: E) D M L rc) → BinJ d .neq t (.int k x) (.int k y)
  | eqS {t} {x y : ByteArray} : (x = y → J P hk n Q (.ops a rest :: K) ((d, .bool true) :: E) D M L rc) → (x ≠ y → J P hk n Q (.ops a rest :: K) ((d, .bool false) :: E) D M L rc) → BinJ d .eql t (.string x) (.string y)
  | neS {t} {x y : ByteArray} : (x = y → J P hk n Q (.ops a rest :: K) ((d, .bool false) :: E) D M L rc) → (x ≠ y → J P hk n Q (.ops a rest :: K) ((d, .bool true) :: E) D M L rc) → BinJ d .neq t (.string x) (.string y)
  | eqA {t fs sz b ag z xs ys} : T.get t = some ⟨.struct fs, sz, b, ag, z⟩ → flatB T fs 0 xs ys = true → (xs = ys → J P hk n Q (.ops a rest :: K) ((d, .bool true) :: E) D M L rc) → (xs ≠ ys → J P hk n Q (.ops a rest :: K) ((d, .bool false) :: E) D M L rc) → BinJ d .eql t (.agg ⟨xs⟩) (.agg ⟨ys⟩)
  | neA {t fs sz b ag z xs ys} : T.get t = some ⟨.struct fs, sz, b, ag, z⟩ → flatB T fs 0 xs ys = true → (xs = ys → J P hk n Q (.ops a rest :: K) ((d, .bool false) :: E) D M L rc) → (xs ≠ ys → J P hk n Q (.ops a rest :: K) ((d, .bool true) :: E) D M L rc) → BinJ d .neq t (.agg ⟨xs⟩) (.agg ⟨ys⟩)
  | eqB {t sz b ag z x y} : T.get t = some ⟨.bool, sz, b, ag, z⟩ → (x = y → J P hk n Q (.ops a rest :: K) ((d, .bool true) :: E) D M L rc) → (x ≠ y → J P hk n Q (.ops a rest :: K) ((d, .bool false) :: E) D M L rc) → BinJ d .eql t (.bool x) (.bool y)
  | neB {t sz b ag z x y} : T.get t = some ⟨.bool, sz, b, ag, z⟩ → (x = y → J P hk n Q (.ops a rest :: K) ((d, .bool false) :: E) D M L rc) → (x ≠ y → J P hk n Q (.ops a rest :: K) ((d, .bool true) :: E) D M L rc) → BinJ d .neq t (.bool x) (.bool y)
  | addS {t} {x y : ByteArray} : Nat.ble (x.size + y.size) 1099511627776 = true → J P hk n Q (.ops a rest :: K) ((d, .string ⟨⟨x.data.toList ++ y.data.toList⟩⟩) :: E) D M L rc → BinJ d .add t (.string x) (.string y)

/-- Compared with nil. -/
inductive NilJ (d : Tmp) : BinOp → Value → Prop where
  | ne : J P hk n Q (.ops a rest :: K) ((d, .bool false) :: E) D M L rc → NilJ d .neq .nilIface
  | neS {u v} : clo v = true → J P hk n Q (.ops a rest :: K) ((d, .bool true) :: E) D M L rc → NilJ d .neq (.iface u v)
  | eq : J P hk n Q (.ops a rest :: K) ((d, .bool true) :: E) D M L rc → NilJ d .eql .nilIface
  | eqS {u v} : clo v = true → J P hk n Q (.ops a rest :: K) ((d, .bool false) :: E) D M L rc → NilJ d .eql (.iface u v)

inductive UnJ (d : Tmp) : UnOp → Value → Prop where
  | notT : J P hk n Q (.ops a rest :: K) ((d, .bool false) :: E) D M L rc → UnJ d .not (.bool true)
  | notF : J P hk n Q (.ops a rest :: K) ((d, .bool true) :: E) D M L rc → UnJ d .not (.bool false)
  | negI {x} : Rng (0 - x) → J P hk n Q (.ops a rest :: K) ((d, .int .i64 (0 - x)) :: E) D M L rc → UnJ d .neg (.int .i64 x)

inductive LenJ : TK → Value → Value → Prop where
  | sl {e p m c} : LenJ (.slice e) (.slice p m c) (.int .i64 m)
  | st {s} : LenJ .str (.string s) (.int .i64 s.size)
  | ch {e r cap buf} : At L r (.chan cap buf) → LenJ (.chan e) (.chan (some r)) (.int .i64 buf.length)
  | mp {k e r es} : At L r (.map es) → LenJ (.map k e) (.map (some r)) (.int .i64 es.length)

/-- A look into a map, or a store. -/
inductive LkJ (d : Tmp) (kt et : TypeId) (zv : Value) (r : Nat) : Bool → Value → Prop where
  | strT {k l sz0 b0 g0 z0} : T.get kt = some ⟨.str, sz0, b0, g0, z0⟩ → At L r (.map (kvs Value.string l)) → (∀ v, mlook k l = some v → J P hk n Q (.ops a rest :: K) ((d, .tuple ⟨[v, .bool true]⟩) :: E) D M L rc) →
      (mlook k l = none → J P hk n Q (.ops a rest :: K) ((d, .tuple ⟨[zv, .bool false]⟩) :: E) D M L rc) → LkJ d kt et zv r true (.string k)
inductive UpJ (kt : TypeId) (v : Value) (r : Nat) : Value → Prop where
  | str {k l L' sz0 b0 g0 z0} : T.get kt = some ⟨.str, sz0, b0, g0, z0⟩ → At L r (.map (kvs Value.string l)) → Upd L r (.map (kvs Value.string l)) (.map (kvs Value.string (mput k v l))) L' → J P hk n Q (.ops a rest :: K) E D M L' rc → UpJ kt v r (.string k)
inductive AppJ (d : Tmp) (t : TypeId) (sz : Nat) (v : Value) : Value → Prop where
  | n {α : Type} {e : El α} {xs : List α} : Src M L e v xs → (∀ x, (e.enc x).length = e.sz) → (∀ x, flatL (e.enc x) = true) → Nat.beq e.sz sz = true → Bd xs.length 1073741824 →
      (∀ s', Own t e s' xs → J P hk n Q (.ops a rest :: K) ((d, .slice (segA s') xs.length (segC s')) :: E) D M (s' :: L) rc) → AppJ d t sz v (.slice none 0 0)
  | o {α : Type} {e : El α} {s A B m} {l xs : List α} : Own t e s l → m = l.length → Spl L A s B → Src M L e v xs → (∀ x, (e.enc x).length = e.sz) → (∀ x, flatL (e.enc x) = true) → Nat.beq e.sz sz = true → Bd (l.length + xs.length) 1073741824 →
      (∀ s', Own t e s' (l ++ xs) → J P hk n Q (.ops a rest :: K) ((d, .slice (segA s') (l ++ xs).length (segC s')) :: E) D M (A ++ s' :: B) rc) → AppJ d t sz v (.slice (segA s) m (segC s))
  | c {α : Type} {e : El α} {id t' kd m} {l xs : List α} : At L id (.row (l.flatMap e.enc) t' kd) → isDead kd = false → m = l.length → Src M L e v xs → (∀ x, (e.enc x).length = e.sz) → Nat.beq e.sz sz = true → Bd (l.length + xs.length) 1073741824 →
      (xs = [] → J P hk n Q (.ops a rest :: K) ((d, .slice (some ⟨id, 0, none⟩) m m) :: E) D M L rc) →
      (xs ≠ [] → ∀ s', Own t e s' (l ++ xs) → J P hk n Q (.ops a rest :: K) ((d, .slice (segA s') (l ++ xs).length (segC s')) :: E) D M (s' :: L) rc) → AppJ d t sz v (.slice (some ⟨id, 0, none⟩) m m)
inductive SelJ (d : Tmp) (r cap : Nat) (z : Value) : List Value → Prop where
  | none : J P hk n Q (.ops a rest :: K) ((d, .tuple ⟨[.int .i64 (-1), .bool false, z]⟩) :: E) D M L rc → SelJ d r cap z []
  | some {v l L'} : Upd L r (.chan cap (v :: l)) (.chan cap l) L' → J P hk n Q (.ops a rest :: K) ((d, .tuple ⟨[.int .i64 0, .bool true, v]⟩) :: E) D M L' rc → SelJ d r cap z (v :: l)
inductive RecJ (d : Tmp) : RC → Prop where
  | ret : J P hk n Q (.ops a rest :: K) ((d, .nilIface) :: E) D M L .ret → RecJ d .ret
  | pan {v} : J P hk n Q (.ops a rest :: K) ((d, v) :: E) D M L (.pan v true) → RecJ d (.pan v false)
inductive AsJ (d : Tmp) (t : TypeId) (zv : Value) : Bool → Value → Prop where
  | yes {v} : J P hk n Q (.ops a rest :: K) ((d, .tuple ⟨[v, .bool true]⟩) :: E) D M L rc → AsJ d t zv true (.iface t v)
  | yes1 {v} : J P hk n Q (.ops a rest :: K) ((d, v) :: E) D M L rc → AsJ d t zv false (.iface t v)
  | no {v u} : Nat.beq u t = false → J P hk n Q (.ops a rest :: K) ((d, .tuple ⟨[zv, .bool false]⟩) :: E) D M L rc → AsJ d t zv true (.iface u v)
inductive CvJ (d : Tmp) : TK → Value → Prop where
  | i64 {k x} : Rng x → J P hk n Q (.ops a rest :: K) ((d, .int .i64 x) :: E) D M L rc → CvJ d (.int .i64) (.int k x)
  | u8 {k x} : 0 ≤ x ∧ x ≤ 255 → J P hk n Q (.ops a rest :: K) ((d, .int .u8 x) :: E) D M L rc → CvJ d (.int .u8) (.int k x)

/-- A field's address: of a place in a row, of a cell. -/
inductive FaJ (d : Tmp) (t i : Nat) : Value → Prop where
  | sl {p k o m} : yfieldOff T t i = some o → AOk M p m → Bd 0 m → J P hk n Q (.ops a rest :: K) ((d, slAtF p k o) :: E) D M L rc → FaJ d t i (slAt p k)
  | pt {p q} : yfieldAddr T t p i = some q → J P hk n Q (.ops a rest :: K) ((d, .pointer (some q)) :: E) D M L rc → FaJ d t i (.pointer (some p))

/-- An element's address: of a slice, of an array. -/
inductive IxJ (d : Tmp) (t : TypeId) (j : Int) : Value → Prop where
  | sl {p m c e te sz0 b0 g0 z0 tk sz tb ag z} : T.get t = some ⟨.slice e, sz0, b0, g0, z0⟩ → T.get e = some ⟨tk, sz, tb, ag, z⟩ → IsN j te → Bd te m → AOk M p m → J P hk n Q (.ops a rest :: K) ((d, slAt p (te * sz)) :: E) D M L rc → IxJ d t j (.slice p m c)
  | ar {id off N e te sz0 b0 g0 z0 tk sz tb ag z} : T.get t = some ⟨.array N e, sz0, b0, g0, z0⟩ → T.get e = some ⟨tk, sz, tb, ag, z⟩ → IsN j te → Bd te N → J P hk n Q (.ops a rest :: K) ((d, .pointer (some ⟨id, off + te * sz, none⟩)) :: E) D M L rc → IxJ d t j (.pointer (some ⟨id, off, none⟩))
inductive OpJ : Oper → Prop where
  | mv {d x v ty pos af g} : dstOk n (some d) = true → E.ev P x = some v → J P hk n Q (.ops a rest :: K) ((d, v) :: E) D M L rc → OpJ ⟨some d, .move x, ty, pos, af, g⟩
  | as {d x v ty pos af g} : dstOk n (some d) = true → E.ev P x = some v → J P hk n Q (.ops a rest :: K) ((d, v) :: E) D M L rc → OpJ ⟨some d, .assign x, ty, pos, af, g⟩
  | pick {d c x y v ty pos af g} : dstOk n (some d) = true → xpPick (E.ev P) c x y = some v → J P hk n Q (.ops a rest :: K) ((d, v) :: E) D M L rc → OpJ ⟨some d, .pick c x y, ty, pos, af, g⟩
  | nilc {d x p ty pos af g} : dstOk n (some d) = true → E.ev P x = some (.pointer (some p)) → J P hk n Q (.ops a rest :: K) ((d, .pointer (some p)) :: E) D M L rc → OpJ ⟨some d, .nilCheck x, ty, pos, af, g⟩
  | nil {d op t x u yt ty pos af g sz0 b0 g0 z0} : dstOk n (some d) = true → E.ev P x = some u → T.get t = some ⟨.iface, sz0, b0, g0, z0⟩ → NilJ P hk n Q K D M L rc a rest E d op u → OpJ ⟨some d, .binOp op t x (.const .nilIface) yt, ty, pos, af, g⟩
  | bin {d op t x y u v yt ty pos af g} : dstOk n (some d) = true → E.ev P x = some u → E.ev P y = some v → BinJ P hk T n Q K D M L rc a rest E d op t u v → OpJ ⟨some d, .binOp op t x y yt, ty, pos, af, g⟩
  | un {d op t x u ty pos af g} : dstOk n (some d) = true → E.ev P x = some u → UnJ P hk n Q K D M L rc a rest E d op u → OpJ ⟨some d, .unOp op t x, ty, pos, af, g⟩
  | build {d t parts l v ty pos af g} : dstOk n (some d) = true → xparts (E.ev P) parts.toList = some l → ybuildG T t l = some v → J P hk n Q (.ops a rest :: K) ((d, v) :: E) D M L rc → OpJ ⟨some d, .build t parts, ty, pos, af, g⟩
  | iface {d t x v i ty pos af g} : dstOk n (some d) = true → E.ev P x = some v → T.get t = some i → (match i.k with | .iface => false | .other => false | _ => true) = true → J P hk n Q (.ops a rest :: K) ((d, .iface t v) :: E) D M L rc →
      OpJ ⟨some d, .makeInterface t x, ty, pos, af, g⟩
  | mkfunc {d fn fs cs l1 l2 ty pos af g} : dstOk n (some d) = true → xlist (E.ev P) fs.toList = some l1 → xlist (E.ev P) cs.toList = some l2 → J P hk n Q (.ops a rest :: K) ((d, .func fn ⟨l1⟩ ⟨l2⟩) :: E) D M L rc → OpJ ⟨some d, .makeFunc fn fs cs, ty, pos, af, g⟩
  | fieldAddr {d t x i u ty pos af g} : dstOk n (some d) = true → E.ev P x = some u → FaJ P hk T n Q K D M L rc a rest E d t i u → OpJ ⟨some d, .fieldAddr t x i, ty, pos, af, g⟩
  | field {d t x i u v ty pos af g} : dstOk n (some d) = true → E.ev P x = some u → yfield T t u i = some v → J P hk n Q (.ops a rest :: K) ((d, v) :: E) D M L rc → OpJ ⟨some d, .field t x i, ty, pos, af, g⟩
  | indexAddr {d t x ix u k j ty pos af g} : dstOk n (some d) = true → E.ev P x = some u → E.ev P ix = some (.int k j) → IxJ P hk T n Q K D M L rc a rest E d t j u → OpJ ⟨some d, .indexAddr t x ix, ty, pos, af, g⟩
  | index {d t x ix s k j m c ty pos af g sz0 b0 g0 z0} : dstOk n (some d) = true → E.ev P x = some (.string s) → E.ev P ix = some (.int k j) → T.get t = some ⟨.str, sz0, b0, g0, z0⟩ → IsN j m → s.data.toList[m]? = some c → J P hk n Q (.ops a rest :: K) ((d, .int .u8 (c.toNat : Int)) :: E) D M L rc → OpJ ⟨some d, .index t x ix, ty, pos, af, g⟩
  | slStr {d t x lo hi s k1 k2 i j l h ty pos af g sz0 b0 g0 z0} : dstOk n (some d) = true → E.ev P x = some (.string s) → E.ev P lo = some (.int k1 i) → E.ev P hi = some (.int k2 j) → T.get t = some ⟨.str, sz0, b0, g0, z0⟩ → IsN i l → IsN j h → Bd l (h + 1) → Bd h (s.size + 1) →
      J P hk n Q (.ops a rest :: K) ((d, .string ⟨⟨(s.data.toList.drop l).take (h - l)⟩⟩) :: E) D M L rc → OpJ ⟨some d, .slice t x (some lo) (some hi) none, ty, pos, af, g⟩
  | extract {d x i l v ty pos af g} : dstOk n (some d) = true → E.ev P x = some (.tuple ⟨l⟩) → nth i l = some v → J P hk n Q (.ops a rest :: K) ((d, v) :: E) D M L rc → OpJ ⟨some d, .extract x i, ty, pos, af, g⟩
  | load {d t x p v ty pos af g} : dstOk n (some d) = true → E.ev P x = some p → Ld T M L t p v → J P hk n Q (.ops a rest :: K) ((d, v) :: E) D M L rc → OpJ ⟨some d, .load t x, ty, pos, af, g⟩
  | store {t x y p v L' ty pos af g} : E.ev P x = some p → E.ev P y = some v → St T L t p v L' → J P hk n Q (.ops a rest :: K) E D M L' rc → OpJ ⟨none, .store t x y, ty, pos, af, g⟩
  | alloc {d t i ty pos af g} : dstOk n (some d) = true → T.get t = some i → (∀ id, J P hk n Q (.ops a rest :: K) ((d, .pointer (some ⟨id, 0, none⟩)) :: E) D M ([(id, .row i.zero t .fixed)] :: L) rc) → OpJ ⟨some d, .alloc t, ty, pos, af, g⟩
  | box {d t x v vs i ty pos af g} : dstOk n (some d) = true → E.ev P x = some v → T.get t = some i → cellsV i.agg v = some vs → (∀ id, J P hk n Q (.ops a rest :: K) ((d, .pointer (some ⟨id, 0, none⟩)) :: E) D M ([(id, .row vs t .fixed)] :: L) rc) →
      OpJ ⟨some d, .box t x, ty, pos, af, g⟩
  | len {d x t v u i ty pos af g} : dstOk n (some d) = true → E.ev P x = some v → T.get t = some i → LenJ L i.k v u → J P hk n Q (.ops a rest :: K) ((d, u) :: E) D M L rc →
      OpJ ⟨some d, .call ⟨.builtin .len, #[x], #[t]⟩, ty, pos, af, g⟩
  | makeSlice {d t e x y k1 k2 i m ty pos af g sz0 b0 g0 z0 tk sz tb ag z} {α : Type} {el : El α} {d0 : α} : dstOk n (some d) = true → E.ev P x = some (.int k1 i) → E.ev P y = some (.int k2 i) → T.get t = some ⟨.slice e, sz0, b0, g0, z0⟩ → T.get e = some ⟨tk, sz, tb, ag, z⟩ →
      MkEl tk el d0 → z = el.enc d0 → IsN i m → Bd m 1099511627776 → Nat.ble tb 256 = true → Nat.ble 1 sz = true →
      (∀ id, J P hk n Q (.ops a rest :: K) ((d, .slice (some ⟨id, 0, none⟩) m m) :: E) D M ([(id, .row ((List.replicate m d0).flatMap el.enc) e .fixed)] :: L) rc) → OpJ ⟨some d, .makeSlice t x y, ty, pos, af, g⟩
  | buildSlice {d t e m parts l r ty pos af g sz0 b0 g0 z0 tk sz tb ag z} : dstOk n (some d) = true → xparts (E.ev P) parts.toList = some l → T.get t = some ⟨.slice e, sz0, b0, g0, z0⟩ → T.get e = some ⟨tk, sz, tb, ag, z⟩ → Nat.ble (m * sz) 16777216 = true → Nat.ble 1 sz = true →
      yfillA sz ag l (zerosL z m) = some r → (∀ id, J P hk n Q (.ops a rest :: K) ((d, .slice (some ⟨id, 0, none⟩) m m) :: E) D M ([(id, .row r e .fixed)] :: L) rc) → OpJ ⟨some d, .buildSlice t m parts, ty, pos, af, g⟩
  | makeMap {d t kt et es ty pos af g sz0 b0 g0 z0 ki} : dstOk n (some d) = true → T.get t = some ⟨.map kt et, sz0, b0, g0, z0⟩ → T.get kt = some ki → MkMp ki.k es → (∀ id, J P hk n Q (.ops a rest :: K) ((d, .map (some id)) :: E) D M ([(id, .map es)] :: L) rc) →
      OpJ ⟨some d, .makeMap t none, ty, pos, af, g⟩
  | makeChan {d t e x k i m es ty pos af g sz0 b0 g0 z0 tk sz tb ag z} : dstOk n (some d) = true → E.ev P x = some (.int k i) → T.get t = some ⟨.chan e, sz0, b0, g0, z0⟩ → T.get e = some ⟨tk, sz, tb, ag, z⟩ → MkCh tk es → IsN i m → Bd m 1073741824 → Nat.ble tb 4096 = true →
      (∀ id, J P hk n Q (.ops a rest :: K) ((d, .chan (some id)) :: E) D M ([(id, .chan m es)] :: L) rc) → OpJ ⟨some d, .makeChan t x, ty, pos, af, g⟩
  | lookup {d t x y kt et ok r kv zv ty pos af g sz0 b0 g0 z0 tk sz tb ag z} : dstOk n (some d) = true → E.ev P x = some (.map (some r)) → E.ev P y = some kv → T.get t = some ⟨.map kt et, sz0, b0, g0, z0⟩ → T.get et = some ⟨tk, sz, tb, ag, z⟩ → mkV ag z = some zv →
      LkJ P hk T n Q K D M L rc a rest E d kt et zv r ok kv → OpJ ⟨some d, .lookup t x y ok, ty, pos, af, g⟩
  | mapUpdate {t x y w kt et r kv v ty pos af g sz0 b0 g0 z0} : E.ev P x = some (.map (some r)) → E.ev P y = some kv → E.ev P w = some v → T.get t = some ⟨.map kt et, sz0, b0, g0, z0⟩ → UpJ P hk T n Q K D M L rc a rest E kt v r kv → OpJ ⟨none, .mapUpdate t x y w, ty, pos, af, g⟩
  | append {d x y u v st xt e xi ty pos af g sz0 b0 g0 z0 tk sz tb ag z} : dstOk n (some d) = true → E.ev P x = some u → E.ev P y = some v → T.get st = some ⟨.slice e, sz0, b0, g0, z0⟩ → T.get e = some ⟨tk, sz, tb, ag, z⟩ → T.get xt = some xi →
      (match xi.k with | .slice _ => true | .str => true | _ => false) = true → Nat.ble 1 sz = true → Nat.ble tb 4096 = true → AppJ P hk n Q K D M L rc a rest E d e sz v u → OpJ ⟨some d, .call ⟨.builtin .append, #[x, y], #[st, xt]⟩, ty, pos, af, g⟩
  | min {d x y p q ats ty pos af g} : dstOk n (some d) = true → E.ev P x = some (.int .i64 p) → E.ev P y = some (.int .i64 q) → J P hk n Q (.ops a rest :: K) ((d, .int .i64 (min p q)) :: E) D M L rc → OpJ ⟨some d, .call ⟨.builtin .min, #[x, y], ats⟩, ty, pos, af, g⟩
  | max {d x y p q ats ty pos af g} : dstOk n (some d) = true → E.ev P x = some (.int .i64 p) → E.ev P y = some (.int .i64 q) → J P hk n Q (.ops a rest :: K) ((d, .int .i64 (max p q)) :: E) D M L rc → OpJ ⟨some d, .call ⟨.builtin .max, #[x, y], ats⟩, ty, pos, af, g⟩
  | send {x y r cap l v L' ty pos af g} : E.ev P x = some (.chan (some r)) → E.ev P y = some v → At L r (.chan cap l) → Bd l.length cap → Upd L r (.chan cap l) (.chan cap (l ++ [v])) L' → J P hk n Q (.ops a rest :: K) E D M L' rc → OpJ ⟨none, .send x y, ty, pos, af, g⟩
  | select {d x e r cap l zv ty pos af g tk sz tb ag z} : dstOk n (some d) = true → E.ev P x = some (.chan (some r)) → T.get e = some ⟨tk, sz, tb, ag, z⟩ → mkV ag z = some zv → At L r (.chan cap l) → SelJ P hk n Q K D M L rc a rest E d r cap zv l → OpJ ⟨some d, .select #[⟨x, none, e⟩] false, ty, pos, af, g⟩
  | panic {x t v ty pos af g d} : E.ev P x = some (.iface t v) → Q E D M L rc (.pan (.iface t v) false) → OpJ ⟨d, .panic x, ty, pos, af, g⟩
  | defer {fo args ats f args' fv vs ty pos af g} : E.ev P fo = some fv → xlist (E.ev P) args.toList = some vs → callee fv vs = some (f, args') → J P hk n Q (.ops a rest :: K) E ((f, args') :: D) M L rc → OpJ ⟨none, .defer ⟨.value fo, args, ats⟩, ty, pos, af, g⟩
  | recover {d ats ty pos af g} : dstOk n (some d) = true → RecJ P hk n Q K D M L a rest E d rc → OpJ ⟨some d, .call ⟨.builtin .recover, #[], ats⟩, ty, pos, af, g⟩
  | assert {d x t xt v zv ok ty pos af g tk sz tb ag z} : dstOk n (some d) = true → E.ev P x = some v → T.get t = some ⟨tk, sz, tb, ag, z⟩ → (match tk with | .iface => false | .other => false | _ => true) = true → mkV ag z = some zv → AsJ P hk n Q K D M L rc a rest E d t zv ok v →
      OpJ ⟨some d, .typeAssert x xt t ok, ty, pos, af, g⟩
  | convert {d s t x v i si ty pos af g} : dstOk n (some d) = true → E.ev P x = some v → T.get t = some i → T.get s = some si → CvJ P hk n Q K D M L rc a rest E d i.k v → OpJ ⟨some d, .convert s t x, ty, pos, af, g⟩
end

section
variable {P : Program} {hk : FuncId → Option (List Value → Heap → AEnd)} {T : TT} {n : Nat} {Q : LPost} {K : List KI} {D : Dl} {M : Imm} {L : List Seg} {rc : RC} {a : Array Oper} {rest : List Oper} {E : Env}

theorem xlist_agree {F : Fr} (ha : Agree F E) : ∀ (l : List Operand) (vs : List Value), xlist (E.ev P) l = some vs → xlist (F.ev P) l = some vs
  | [], _, h => h
  | x :: l, vs, h => by
    simp only [xlist] at h ⊢
    split at h
    · rename_i v hv
      rw [ha.ev hv]
      simp only
      split at h
      · rename_i r hr
        rw [xlist_agree ha l r hr]
        exact h
      · cases h
    · cases h
theorem xparts_agree {F : Fr} (ha : Agree F E) : ∀ (l : List (Nat × Operand)) (vs : List (Nat × Value)), xparts (E.ev P) l = some vs → xparts (F.ev P) l = some vs
  | [], _, h => h
  | (i, x) :: l, vs, h => by
    simp only [xparts] at h ⊢
    split at h
    · rename_i v hv
      rw [ha.ev hv]
      simp only
      split at h
      · rename_i r hr
        rw [xparts_agree ha l r hr]
        exact h
      · cases h
    · cases h

theorem xbin_int {op : BinOp} {t : TypeId} {xo yo : Operand} {k : IntKind} {x y : Int} {v : Value} (h : peel P (do eqGuard op t xo yo (.int k x) (.int k y); binOp op t (.int k x) (.int k y)) = some v) (hc : clo v = true) :
    xbin P op t xo yo (.int k x) (.int k y) = some v := by
  unfold xbin xbin2
  simp only [clo, Bool.and_self, h, hc]

theorem step_bin {d : Tmp} {op : BinOp} {t yt ty : TypeId} {x y : Operand} {u v w : Value} {pos : String} {af : Array Edge} {g : Option (Nat × Bool)} (hg : guardE a E g = some true) (hd : dstOk n (some d) = true)
    (hx : E.ev P x = some u) (hy : E.ev P y = some v) (h : xbin P op t x y u v = some w) (hj : J P hk n Q (.ops a rest :: K) ((d, w) :: E) D M L rc) :
    J P hk n Q (.ops a (⟨some d, .binOp op t x y yt, ty, pos, af, g⟩ :: rest) :: K) E D M L rc := by
  refine J.pure (v := w) hg hd (fun F H r ha hs => ?_) hj
  show soPure (xpBin P (F.ev P) op t x y) D H rc = _
  unfold xpBin
  rw [ha.ev hx, ha.ev hy]
  simp only [h, soPure]

theorem BinJ.ok (hT : TOk P T) {d : Tmp} {op : BinOp} {t yt ty : TypeId} {x y : Operand} {u v : Value} {pos : String} {af : Array Edge} {g : Option (Nat × Bool)} (hg : guardE a E g = some true) (hd : dstOk n (some d) = true)
    (hx : E.ev P x = some u) (hy : E.ev P y = some v) (h : BinJ P hk T n Q K D M L rc a rest E d op t u v) :
    J P hk n Q (.ops a (⟨some d, .binOp op t x y yt, ty, pos, af, g⟩ :: rest) :: K) E D M L rc := by
  cases h with
  | addI hr hj =>
    refine step_bin hg hd hx hy (xbin_int ?_ rfl) hj
    rename_i p q
    show some (Value.int .i64 (IntKind.i64.wrap (p + q))) = _
    rw [wrap_rng hr]
  | subI hr hj =>
    refine step_bin hg hd hx hy (xbin_int ?_ rfl) hj
    rename_i p q
    show some (Value.int .i64 (IntKind.i64.wrap (p - q))) = _
    rw [wrap_rng hr]
  | quoI h0 hr hj =>
    refine step_bin hg hd hx hy (xbin_int ?_ rfl) hj
    rename_i p q
    have h0 := of_decide_eq_false h0
    have e : peel P (do eqGuard .quo t x y (.int .i64 p) (.int .i64 q); binOp .quo t (.int .i64 p) (.int .i64 q)) = some (.int .i64 (IntKind.i64.wrap (p.tdiv q))) := quo_peel h0
    rw [e, wrap_rng hr]
  | subB hr hj =>
    refine step_bin hg hd hx hy (xbin_int ?_ rfl) hj
    rename_i p q
    show some (Value.int .u8 (IntKind.u8.wrap (p - q))) = _
    rw [wrap_u8 hr]
  | mulI hr hj =>
    refine step_bin hg hd hx hy (xbin_int ?_ rfl) hj
    rename_i p q
    show some (Value.int .i64 (IntKind.i64.wrap (p * q))) = _
    rw [wrap_rng hr]
  | ltI h1 h2 =>
    rename_i k p q
    have e : peel P (do eqGuard .lss t x y (.int k p) (.int k q); binOp .lss t (.int k p) (.int k q)) = some (.bool (decide (p < q))) := by cases k <;> rfl
    by_cases hp : p < q
    · exact step_bin hg hd hx hy (xbin_int (by rw [e, decide_eq_true hp]) rfl) (h1 hp)
    · exact step_bin hg hd hx hy (xbin_int (by rw [e, decide_eq_false hp]) rfl) (h2 hp)
  | leI h1 h2 =>
    rename_i k p q
    have e : peel P (do eqGuard .leq t x y (.int k p) (.int k q); binOp .leq t (.int k p) (.int k q)) = some (.bool (decide (p ≤ q))) := by cases k <;> rfl
    by_cases hp : p ≤ q
    · exact step_bin hg hd hx hy (xbin_int (by rw [e, decide_eq_true hp]) rfl) (h1 hp)
    · exact step_bin hg hd hx hy (xbin_int (by rw [e, decide_eq_false hp]) rfl) (h2 hp)
  | gtI h1 h2 =>
    rename_i k p q
    have e : peel P (do eqGuard .gtr t x y (.int k p) (.int k q); binOp .gtr t (.int k p) (.int k q)) = some (.bool (decide (p > q))) := by cases k <;> rfl
    by_cases hp : q < p
    · exact step_bin hg hd hx hy (xbin_int (by rw [e, decide_eq_true hp]) rfl) (h1 hp)
    · exact step_bin hg hd hx hy (xbin_int (by rw [e, decide_eq_false hp]) rfl) (h2 hp)
  | geI h1 h2 =>
    rename_i k p q
    have e : peel P (do eqGuard .geq t x y (.int k p) (.int k q); binOp .geq t (.int k p) (.int k q)) = some (.bool (decide (p ≥ q))) := by cases k <;> rfl
    by_cases hp : q ≤ p
    · exact step_bin hg hd hx hy (xbin_int (by rw [e, decide_eq_true hp]) rfl) (h1 hp)
    · exact step_bin hg hd hx hy (xbin_int (by rw [e, decide_eq_false hp]) rfl) (h2 hp)
  | eqI h1 h2 =>
    rename_i k p q
    have e : peel P (do eqGuard .eql t x y (.int k p) (.int k q); binOp .eql t (.int k p) (.int k q)) = some (.bool (p == q)) := by cases k <;> rfl
    by_cases hp : p = q
    · exact step_bin hg hd hx hy (xbin_int (by rw [e, beq_iff_eq.2 hp]) rfl) (h1 hp)
    · exact step_bin hg hd hx hy (xbin_int (by rw [e, beq_eq_false_iff_ne.2 hp]) rfl) (h2 hp)
  | neI h1 h2 =>
    rename_i k p q
    have e : peel P (do eqGuard .neq t x y (.int k p) (.int k q); binOp .neq t (.int k p) (.int k q)) = some (.bool (p != q)) := by cases k <;> rfl
    by_cases hp : p = q
    · exact step_bin hg hd hx hy (xbin_int (by rw [e]; simp [hp]) rfl) (h1 hp)
    · exact step_bin hg hd hx hy (xbin_int (by rw [e]; simp [hp]) rfl) (h2 hp)
  | eqS h1 h2 =>
    rename_i p q
    by_cases hp : p = q
    · refine step_bin hg hd hx hy ?_ (h1 hp)
      subst hp
      simp [xbin, xstr]
    · refine step_bin hg hd hx hy ?_ (h2 hp)
      have : ¬ p.data = q.data := fun e => hp (by cases p; cases q; congr)
      simp [xbin, xstr, this]
  | neS h1 h2 =>
    rename_i p q
    by_cases hp : p = q
    · refine step_bin hg hd hx hy ?_ (h1 hp)
      subst hp
      simp [xbin, xstr]
    · refine step_bin hg hd hx hy ?_ (h2 hp)
      have : ¬ p.data = q.data := fun e => hp (by cases p; cases q; congr)
      simp [xbin, xstr, this]
  | eqA ht hf h1 h2 =>
    obtain ⟨b, e1, e2, _⟩ := xbin_agg hT ht hf x y
    cases b with
    | true => exact step_bin hg hd hx hy e2 (h1 (e1.1 rfl))
    | false => exact step_bin hg hd hx hy e2 (h2 fun e => by have := e1.2 e; cases this)
  | neA ht hf h1 h2 =>
    obtain ⟨b, e1, _, e2⟩ := xbin_agg hT ht hf x y
    cases b with
    | true => exact step_bin hg hd hx hy e2 (h1 (e1.1 rfl))
    | false => exact step_bin hg hd hx hy e2 (h2 fun e => by have := e1.2 e; cases this)
  | eqB ht h1 h2 =>
    rename_i p q
    obtain ⟨e1, e2⟩ := xbin_bool hT ht p q x y
    by_cases hp : p = q
    · exact step_bin hg hd hx hy (by rw [e1, beq_iff_eq.2 hp]) (h1 hp)
    · exact step_bin hg hd hx hy (by rw [e1, beq_eq_false_iff_ne.2 hp]) (h2 hp)
  | neB ht h1 h2 =>
    rename_i p q
    obtain ⟨e1, e2⟩ := xbin_bool hT ht p q x y
    by_cases hp : p = q
    · exact step_bin hg hd hx hy (by rw [e2, beq_iff_eq.2 hp]; rfl) (h1 hp)
    · exact step_bin hg hd hx hy (by rw [e2, beq_eq_false_iff_ne.2 hp]; rfl) (h2 hp)
  | addS h1 h2 =>
    refine step_bin hg hd hx hy ?_ h2
    simp only [xbin, xstr, h1]

theorem UnJ.ok {d : Tmp} {op : UnOp} {t ty : TypeId} {x : Operand} {u : Value} {pos : String} {af : Array Edge} {g : Option (Nat × Bool)} (hg : guardE a E g = some true) (hd : dstOk n (some d) = true)
    (hx : E.ev P x = some u) (h : UnJ P hk n Q K D M L rc a rest E d op u) :
    J P hk n Q (.ops a (⟨some d, .unOp op t x, ty, pos, af, g⟩ :: rest) :: K) E D M L rc := by
  have key : ∀ {w : Value}, clo u = true → xclosed P (Op.unary op u) = some w → J P hk n Q (.ops a rest :: K) ((d, w) :: E) D M L rc →
      J P hk n Q (.ops a (⟨some d, .unOp op t x, ty, pos, af, g⟩ :: rest) :: K) E D M L rc := by
    intro w hc hw hj
    refine J.pure (v := w) hg hd (fun F H r ha hs => ?_) hj
    show soPure (xpUn P (F.ev P) op x) D H rc = _
    unfold xpUn
    rw [ha.ev hx]
    simp only [hc, hw, soPure]
  cases h with
  | notT hj => exact key rfl rfl hj
  | notF hj => exact key rfl rfl hj
  | negI hr hj =>
    rename_i q
    refine key rfl ?_ hj
    show some (Value.int .i64 (IntKind.i64.wrap (0 - q))) = _
    rw [wrap_rng hr]

theorem OpJ.ok (hT : TOk P T) {o : Oper} (hg : guardE a E o.guard = some true) (h : OpJ P hk T n Q K D M L rc a rest E o) : J P hk n Q (.ops a (o :: rest) :: K) E D M L rc := by
  cases h with
  | mv hd hx hj =>
    refine J.pure hg hd (fun F H r ha hs => ?_) hj
    show soPure (F.ev P _) D H rc = _
    rw [ha.ev hx]; rfl
  | as hd hx hj =>
    refine J.pure hg hd (fun F H r ha hs => ?_) hj
    show soPure (F.ev P _) D H rc = _
    rw [ha.ev hx]; rfl
  | pick hd hx hj =>
    refine J.pure hg hd (fun F H r ha hs => ?_) hj
    show soPure (xpPick (F.ev P) _ _ _) D H rc = _
    unfold xpPick at hx ⊢
    split at hx
    · rename_i hc; rw [ha.ev hc]; simp only; rw [ha.ev hx]; rfl
    · rename_i hc; rw [ha.ev hc]; simp only; rw [ha.ev hx]; rfl
    · cases hx
  | nilc hd hx hj =>
    refine J.pure hg hd (fun F H r ha hs => ?_) hj
    show soPure (xpNil (F.ev P) _) D H rc = _
    unfold xpNil
    rw [ha.ev hx]; rfl
  | nil hd hx ht hb =>
    cases hb with
    | ne hj => exact step_bin hg hd hx rfl (xbin_nil2 hT ht _ _).2 hj
    | neS hc hj => exact step_bin hg hd hx rfl (xbin_nil hT ht _ hc _ _).2 hj
    | eq hj => exact step_bin hg hd hx rfl (xbin_nil2 hT ht _ _).1 hj
    | eqS hc hj => exact step_bin hg hd hx rfl (xbin_nil hT ht _ hc _ _).1 hj
  | bin hd hx hy hb => exact hb.ok hT hg hd hx hy
  | un hd hx hb => exact hb.ok hg hd hx
  | build hd hp hb hj =>
    refine J.pure hg hd (fun F H r ha hs => ?_) hj
    show soPure (xpBuild P (F.ev P) _ _) D H rc = _
    unfold xpBuild
    rw [xparts_agree ha _ _ hp]
    simp only [ybuildG_ok hT hb, soPure]
  | iface hd hx hi hk' hj =>
    refine J.pure hg hd (fun F H r ha hs => ?_) hj
    show soPure (xpIface P (F.ev P) _ _) D H rc = _
    unfold xpIface
    rw [ha.ev hx]
    obtain ⟨dd, h1, h2⟩ := (hT _ _ hi).notIface (fun x e => by rw [← e]; constructor <;> (intro e'; rw [e'] at hk'; cases hk'))
    simp only [xiface, h1]
    cases dd <;> first | exact absurd rfl (h2 _) | rfl
  | mkfunc hd h1 h2 hj =>
    refine J.pure hg hd (fun F H r ha hs => ?_) hj
    show soPure (xpFunc (F.ev P) _ _ _) D H rc = _
    unfold xpFunc
    rw [xlist_agree ha _ _ h1, xlist_agree ha _ _ h2]; rfl
  | fieldAddr hd hx hf =>
    cases hf with
    | pt hy hj =>
      refine J.pure hg hd (fun F H r ha hs => ?_) hj
      show soPure (xpFieldAddr P (F.ev P) _ _ _) D H rc = _
      unfold xpFieldAddr
      rw [ha.ev hx]
      simp only [yfieldAddr_ok hT hy]; rfl
    | sl hy ho hm hj =>
      refine J.pure hg hd (fun F H r ha hs => ?_) hj
      show soPure (xpFieldAddr P (F.ev P) _ _ _) D H rc = _
      unfold xpFieldAddr
      rw [ha.ev hx]
      obtain ⟨p, rfl⟩ := ho.some hm.lt
      unfold slAt slAtF
      simp only [Option.map_some, yfieldOff_ok hT hy]; rfl
  | field hd hx hy hj =>
    refine J.pure hg hd (fun F H r ha hs => ?_) hj
    show soPure (xpField P (F.ev P) _ _ _) D H rc = _
    unfold xpField
    rw [ha.ev hx]
    simp only [yfield_ok hT hy]; rfl
  | indexAddr hd hx hy hi =>
    cases hi with
    | sl ht he hn hb ho hj =>
      refine J.pure hg hd (fun F H r ha hs => ?_) hj
      show soPure (xpIndexAddr P (F.ev P) _ _ _) D H rc = _
      unfold xpIndexAddr
      rw [ha.ev hx, ha.ev hy]
      obtain ⟨p, rfl⟩ := ho.some (by have := hb.lt; omega)
      unfold IsN at hn
      subst hn
      simp only [xindexAddr, (hT _ _ ht).slice rfl, (hT _ _ he).size]
      have := hb.lt
      simp only [xidx, show decide ((0 : Int) ≤ _) = true from decide_eq_true (Int.natCast_nonneg _), show decide (((_ : Nat) : Int) < (_ : Nat)) = true from decide_eq_true (Int.ofNat_lt.2 hb.lt), Bool.and_self]
      rfl
    | ar ht he hn hb hj =>
      refine J.pure hg hd (fun F H r ha hs => ?_) hj
      show soPure (xpIndexAddr P (F.ev P) _ _ _) D H rc = _
      unfold xpIndexAddr
      rw [ha.ev hx, ha.ev hy]
      unfold IsN at hn
      subst hn
      simp only [xindexAddr, (hT _ _ ht).array rfl, (hT _ _ he).size]
      have := hb.lt
      simp only [xidx, show decide ((0 : Int) ≤ _) = true from decide_eq_true (Int.natCast_nonneg _), show decide (((_ : Nat) : Int) < (_ : Nat)) = true from decide_eq_true (Int.ofNat_lt.2 hb.lt), Bool.and_self, Int.toNat_natCast, soPure]
      rw [addr_add]
  | index hd hx hy ht hn hc hj =>
    rename_i d t x ix s k j m c ty pos af g sz0 b0 g0 z0
    refine J.pure hg hd (fun F H r ha hs => ?_) hj
    show soPure (xpIndex P (F.ev P) _ _ _) D H rc = _
    unfold xpIndex
    rw [ha.ev hx, ha.ev hy]
    unfold IsN at hn
    subst hn
    have hm : m < s.size := (List.getElem?_eq_some_iff.1 hc).1
    simp only [xindex, (hT _ _ ht).str rfl]
    simp only [xidx, show decide ((0 : Int) ≤ _) = true from decide_eq_true (Int.natCast_nonneg _), show decide (((m : Nat) : Int) < (s.size : Nat)) = true from decide_eq_true (Int.ofNat_lt.2 hm), Bool.and_self, Int.toNat_natCast]
    rw [← Array.getElem?_toList, hc]
    rfl
  | slStr hd hx hy hz ht hl hh b1 b2 hj =>
    rename_i d t x lo hi s k1 k2 i j l h ty pos af g sz0 b0 g0 z0
    refine J.pure hg hd (fun F H r ha hs => ?_) hj
    show soHeap (xhSlice P (F.ev P) H _ _ (some lo) (some hi) none) D rc = _
    unfold xhSlice
    simp only [xoptv, ha.ev hx, ha.ev hy, ha.ev hz]
    unfold IsN at hl hh
    subst hl
    subst hh
    have h1 := b1.lt
    have h2 := b2.lt
    have e1 : xbound (.int k2 (h : Int)) s.size = some h := by
      unfold xbound
      have : (decide (0 ≤ (h : Int)) && decide ((h : Int) ≤ (s.size : Int))) = true := by simp; omega
      simp only [this, Int.toNat_natCast]
    have e2 : xbound (.int k1 (l : Int)) h = some l := by
      unfold xbound
      have : (decide (0 ≤ (l : Int)) && decide ((l : Int) ≤ (h : Int))) = true := by simp; omega
      simp only [this, Int.toNat_natCast]
    unfold xslice
    rw [(hT _ _ ht).str rfl]
    simp only [xbounds, xboundO, e1, e2, Nat.ble_eq_true_of_le (show l ≤ h by omega), Nat.ble_eq_true_of_le (show h ≤ s.size by omega), soHeap]
  | extract hd hx hn hj =>
    rename_i d x i l v ty pos af g
    refine J.pure hg hd (fun F H r ha hs => ?_) hj
    show soPure (xpExtract (F.ev P) _ _) D H rc = _
    unfold xpExtract
    rw [ha.ev hx]
    rw [nth_eq] at hn
    simp only [xextract]
    have : (⟨l⟩ : Array Value)[i]? = some v := by simpa using hn
    rw [this]; rfl
  | load hd hx hl hj =>
    refine J.pure hg hd (fun F H r ha hs => ?_) hj
    show soHeap (xhLoad P (F.ev P) H _ _) D rc = _
    unfold xhLoad
    rw [ha.ev hx]
    simp only [hl.ok hT hs]; rfl
  | store hx hy hst hj =>
    rename_i t x y p v L1 ty pos af g
    refine J.op (D' := D) (rc' := rc) (fun u L' => L' = L1) hg rfl (fun F H ha hs => ?_) (fun u L' h => ?_)
    · obtain ⟨H', h1, h2, h3⟩ := hst.ok hT hs
      refine ⟨0, undef, H', _, ?_, h2, h3, rfl⟩
      show soHeap (xhStore P (F.ev P) H _ _ _) D rc = _
      unfold xhStore
      rw [ha.ev hx, ha.ev hy]
      simp only [h1]; rfl
    · subst h; exact hj
  | alloc hd ht hj =>
    rename_i d t i ty pos af g
    refine J.op (D' := D) (rc' := rc) (fun u L' => ∃ id, u = .pointer (some ⟨id, 0, none⟩) ∧ L' = [(id, .row i.zero t .fixed)] :: L) hg hd (fun F H ha hs => ?_) (fun u L' h => ?_)
    · obtain ⟨h2, h3⟩ := hs.new (.row i.zero t .fixed)
      refine ⟨0, _, _, _, ?_, h2, h3, H.next, rfl, rfl⟩
      show soHeap (xalloc P H t) D rc = _
      unfold xalloc
      obtain ⟨z, hz, _, hzc⟩ := (hT _ _ ht).zero
      rw [hz]
      simp only [xnewVar, hzc]
      rfl
    · obtain ⟨id, rfl, rfl⟩ := h; exact hj id
  | box hd hx ht hc hj =>
    rename_i d t x v vs i ty pos af g
    refine J.op (D' := D) (rc' := rc) (fun u L' => ∃ id, u = .pointer (some ⟨id, 0, none⟩) ∧ L' = [(id, .row vs t .fixed)] :: L) hg hd (fun F H ha hs => ?_) (fun u L' h => ?_)
    · obtain ⟨h2, h3⟩ := hs.new (.row vs t .fixed)
      refine ⟨0, _, _, _, ?_, h2, h3, H.next, rfl, rfl⟩
      show soHeap (xhBox (F.ev P) H t x) D rc = _
      unfold xhBox
      rw [ha.ev hx]
      simp only [xnewVar, cellsV_cells hc]
      rfl
    · obtain ⟨id, rfl, rfl⟩ := h; exact hj id
  | len hd hx ht hl hj =>
    rename_i d x t v u i ty pos af g
    refine J.pure hg hd (fun F H r ha hs => ?_) hj
    show soLen P (F.ev P) ⟨.builtin .len, #[x], #[t]⟩ ty D H rc = _
    have hi := hT _ _ ht
    have hxl : xlist (F.ev P) [x] = some [v] := by simp only [xlist, ha.ev hx]
    have pur : xlen P t v = some u → soLen P (F.ev P) ⟨.builtin .len, #[x], #[t]⟩ ty D H rc = .val u D H rc := by
      intro h
      have e : xpCall P (F.ev P) ⟨.builtin .len, #[x], #[t]⟩ ty = some u := by
        simp only [xpCall, hxl, xbuiltin]
        exact h
      unfold soLen
      rw [e]
    have mem : xlen P t v = none → xlenH P H t v = some u → soLen P (F.ev P) ⟨.builtin .len, #[x], #[t]⟩ ty D H rc = .val u D H rc := by
      intro h h'
      have e : xpCall P (F.ev P) ⟨.builtin .len, #[x], #[t]⟩ ty = none := by
        simp only [xpCall, hxl, xbuiltin]
        exact h
      have e' : xhLen P (F.ev P) H #[x] #[t] = some (u, H) := by
        unfold xhLen
        simp only [hxl]
        show (match xlenH P H t v with | some v => some (v, H) | none => none) = some (u, H)
        rw [h']
      unfold soLen
      rw [e]
      simp only [e', soHeap]
    generalize hk' : i.k = kk at hl
    cases hl with
    | sl => exact pur (by simp only [xlen, hi.slice hk'])
    | st => exact pur (by simp only [xlen, hi.str hk'])
    | ch h1 =>
      obtain ⟨dir, hu⟩ := hi.chan hk'
      refine mem (by simp only [xlen, hu]) ?_
      simp only [xlenH, hu, hs.at h1]
    | mp h1 =>
      have hu := hi.map hk'
      refine mem (by simp only [xlen, hu]) ?_
      simp only [xlenH, hu, xentries, hs.at h1]
  | makeSlice hd hx hy ht he hm hz hn hb hbb h1 hj =>
    rename_i d t e x y k1 k2 i m ty pos af g sz0 b0 g0 z0 tk sz tb ag z α el d0
    refine J.op (D' := D) (rc' := rc) (fun u L' => ∃ id, u = .slice (some ⟨id, 0, none⟩) m m ∧ L' = [(id, .row ((List.replicate m d0).flatMap el.enc) e .fixed)] :: L) hg hd (fun F H ha hs => ?_) (fun u L' h => ?_)
    · obtain ⟨h2, h3⟩ := hs.new (.row ((List.replicate m d0).flatMap el.enc) e .fixed)
      refine ⟨0, _, _, _, ?_, h2, h3, H.next, rfl, rfl⟩
      show soHeap (xhMakeSlice P (F.ev P) H t x y) D rc = _
      unfold xhMakeSlice
      unfold IsN at hn
      subst hn
      rw [ha.ev hx, ha.ev hy]
      simp only [makeSlice_ok hT ht he hz (Nat.le_of_lt hb.lt) hbb h1, soHeap]
    · obtain ⟨id, rfl, rfl⟩ := h; exact hj id
  | buildSlice hd hp ht he hm h1 hf hj =>
    rename_i d t e m parts l r ty pos af g sz0 b0 g0 z0 tk sz tb ag z
    refine J.op (D' := D) (rc' := rc) (fun u L' => ∃ id, u = .slice (some ⟨id, 0, none⟩) m m ∧ L' = [(id, .row r e .fixed)] :: L) hg hd (fun F H ha hs => ?_) (fun u L' h => ?_)
    · obtain ⟨h2, h3⟩ := hs.new (.row r e .fixed)
      refine ⟨0, _, _, _, ?_, h2, h3, H.next, rfl, rfl⟩
      show soHeap (xhBuildSlice P (F.ev P) H t m parts) D rc = _
      unfold xhBuildSlice
      rw [xparts_agree ha _ _ hp]
      simp only [buildSlice_ok hT ht he hm h1 hf, soHeap]
    · obtain ⟨id, rfl, rfl⟩ := h; exact hj id
  | makeMap hd ht hk' hm hj =>
    rename_i d t kt et es ty pos af g sz0 b0 g0 z0 ki
    refine J.op (D' := D) (rc' := rc) (fun u L' => ∃ id, u = .map (some id) ∧ L' = [(id, .map es)] :: L) hg hd (fun F H ha hs => ?_) (fun u L' h => ?_)
    · obtain ⟨h2, h3⟩ := hs.new (.map es)
      refine ⟨0, _, _, _, ?_, h2, h3, H.next, rfl, rfl⟩
      show soHeap (xhMakeMap P (F.ev P) H t none) D rc = _
      rw [hm.nil]; rfl
    · obtain ⟨id, rfl, rfl⟩ := h; exact hj id
  | makeChan hd hx ht he hm hn hb hbb hj =>
    rename_i d t e x k i m es ty pos af g sz0 b0 g0 z0 tk sz tb ag z
    refine J.op (D' := D) (rc' := rc) (fun u L' => ∃ id, u = .chan (some id) ∧ L' = [(id, .chan m es)] :: L) hg hd (fun F H ha hs => ?_) (fun u L' h => ?_)
    · obtain ⟨h2, h3⟩ := hs.new (.chan m es)
      refine ⟨0, _, _, _, ?_, h2, h3, H.next, rfl, rfl⟩
      show soHeap (xhMakeChan P (F.ev P) H t x) D rc = _
      unfold xhMakeChan
      unfold IsN at hn
      subst hn
      rw [ha.ev hx]
      obtain ⟨dir, hu⟩ := (hT _ _ ht).chan rfl
      have := hb.lt
      simp only [xmakeChan, hu, (hT _ _ he).bytes, hbb, decide_eq_true (Int.natCast_nonneg m), decide_eq_true (show (m : Int) ≤ 1073741824 by omega), Bool.and_self, Int.toNat_natCast]
      rw [hm.nil]; rfl
    · obtain ⟨id, rfl, rfl⟩ := h; exact hj id
  | lookup hd hx hy ht he hz hl =>
    cases hl with
    | strT hk' hat h1 h2 =>
      rename_i d t x y kt et r zv ty pos af g sz0 b0 g0 z0 tk sz tb ag z k l sz1 b1 g1 z1
      have key : ∀ w, (∀ (H : Heap), H.get r = some (.map (kvs Value.string l)) → xlookup P H t (.map (some r)) (.string k) true = some w) → J P hk n Q (.ops a rest :: K) ((d, w) :: E) D M L rc →
          J P hk n Q (.ops a (⟨some d, .lookup t x y true, ty, pos, af, g⟩ :: rest) :: K) E D M L rc := by
        intro w hw hj
        refine J.pure hg hd (fun F H r ha hs => ?_) hj
        show soHeap (xhLookup P (F.ev P) H _ _ _ _) D rc = _
        unfold xhLookup
        rw [ha.ev hx, ha.ev hy]
        simp only [hw H (hs.at hat)]; rfl
      cases hm : mlook k l with
      | none => exact key _ (fun H hH => by rw [lookup_ok hT (keyStr hT hk') ht he hH k true hz, hm]) (h2 hm)
      | some v => exact key _ (fun H hH => by rw [lookup_ok hT (keyStr hT hk') ht he hH k true hz, hm]) (h1 v hm)
  | mapUpdate hx hy hw ht hl =>
    cases hl with
    | str hk' hat hu hj =>
      rename_i t x y w kt et r v ty pos af g sz0 b0 g0 z0 k l L' sz1 b1 g1 z1
      refine J.op (D' := D) (rc' := rc) (fun u L1 => L1 = L') hg rfl (fun F H ha hs => ?_) (fun u L1 h => ?_)
      · obtain ⟨h2, h3⟩ := hs.upd hu
        refine ⟨0, undef, _, _, ?_, h2, h3, rfl⟩
        show soHeap (xhMapUpdate P (F.ev P) H t x y w) D rc = _
        unfold xhMapUpdate
        rw [ha.ev hx, ha.ev hy, ha.ev hw]
        simp only [mapUpdate_ok hT (keyStr hT hk') ht (hs.at hat) k v]; rfl
      · subst h; exact hj
  | append hd hx hy hst he hxt hxk h1 hb happ =>
    rename_i d x y u v st xt e xi ty pos af g sz0 b0 g0 z0 tk sz tb ag z
    have step : ∀ {F : Fr} {H : Heap} {nn new w H'}, Agree F E → xnew H sz v = some (nn, new) → (isStr v && !(Nat.beq sz 1)) = false → Nat.ble (sliceLen u + nn) 1073741824 = true → xappendAt H e sz u nn new = some (w, H') →
        stepOp P (run P hk 0) ⟨some d, .call ⟨.builtin .append, #[x, y], #[st, xt]⟩, ty, pos, af, g⟩ F D H rc = .val w D H' rc := by
      intro F H nn new w H' ha hnew hstr hn hat
      show soHeap (xhAppend P (F.ev P) H #[x, y] #[st, xt]) D rc = _
      unfold xhAppend
      have hxl : xlist (F.ev P) (#[x, y] : Array Operand).toList = some [u, v] := by simp only [xlist, ha.ev hx, ha.ev hy]
      rw [hxl]
      simp only
      rw [append_at hT hst he hxt hxk h1 hb hnew hstr hn, hat]; rfl
    cases happ with
    | n hsrc hsz hfl hbe hbd hj =>
      rename_i α el xs
      have hbe := Nat.eq_of_beq_eq_true hbe
      subst hbe
      refine J.op (D' := D) (rc' := rc) (fun w L' => ∃ s', Own e el s' xs ∧ w = .slice (segA s') xs.length (segC s') ∧ L' = s' :: L) hg hd (fun F H ha hs => ?_) (fun w L' h => ?_)
      · obtain ⟨h3, h4⟩ := hsrc.ok hs hsz
        obtain ⟨s', H', p1, p2, p3, p4⟩ := append_nil hs (t := e) (e := el) (xs := xs)
        exact ⟨0, _, H', _, step ha h3 (by rw [h4]; rfl) (by have := hbd.lt; simp only [sliceLen]; rw [Nat.ble_eq]; omega) p2, p3, p4, s', p1, rfl, rfl⟩
      · obtain ⟨s', p1, rfl, rfl⟩ := h; exact hj s' p1
    | o ho hm hp hsrc hsz hfl hbe hbd hj =>
      rename_i α el s A B m l xs
      have hbe := Nat.eq_of_beq_eq_true hbe
      subst hbe
      subst hm
      refine J.op (D' := D) (rc' := rc) (fun w L' => ∃ s', Own e el s' (l ++ xs) ∧ w = .slice (segA s') (l ++ xs).length (segC s') ∧ L' = A ++ s' :: B) hg hd (fun F H ha hs => ?_) (fun w L' h => ?_)
      · obtain ⟨h3, h4⟩ := hsrc.ok hs hsz
        obtain ⟨s', H', p1, p2, p3, p4⟩ := append_own hs (t := e) (e := el) (xs := xs) hsz hfl ho hp
        exact ⟨0, _, H', _, step ha h3 (by rw [h4]; rfl) (by have := hbd.lt; simp only [sliceLen]; rw [Nat.ble_eq]; omega) p2, p3, p4, s', p1, rfl, rfl⟩
      · obtain ⟨s', p1, rfl, rfl⟩ := h; exact hj s' p1
    | c hat hdd hm hsrc hsz hbe hbd hj0 hj =>
      rename_i α el id t' kd m l xs
      have hbe := Nat.eq_of_beq_eq_true hbe
      subst hbe
      subst hm
      refine J.op (D' := D) (rc' := rc) (fun w L' => (xs = [] ∧ w = .slice (some ⟨id, 0, none⟩) l.length l.length ∧ L' = L) ∨ (xs ≠ [] ∧ ∃ s', Own e el s' (l ++ xs) ∧ w = .slice (segA s') (l ++ xs).length (segC s') ∧ L' = s' :: L)) hg hd (fun F H ha hs => ?_) (fun w L' h => ?_)
      · obtain ⟨h3, h4⟩ := hsrc.ok hs hsz
        obtain ⟨w, L', H', p0, p2, p3, p4⟩ := append_cap hs (t := e) (e := el) (xs := xs) hsz hat hdd (by have := hbd.lt; omega)
        exact ⟨0, _, H', _, step ha h3 (by rw [h4]; rfl) (by have := hbd.lt; simp only [sliceLen]; rw [Nat.ble_eq]; omega) p2, p3, p4, p0⟩
      · rcases h with ⟨h0, rfl, rfl⟩ | ⟨h0, s', p1, rfl, rfl⟩
        · exact hj0 h0
        · exact hj h0 s' p1
  | min hd hx hy hj =>
    rename_i d x y p q ats ty pos af g
    refine J.pure hg hd (fun F H r ha hs => ?_) hj
    show soPure (xpCall P (F.ev P) ⟨.builtin .min, #[x, y], ats⟩ ty) D H rc = _
    have hxl : xlist (F.ev P) (#[x, y] : Array Operand).toList = some [.int .i64 p, .int .i64 q] := by simp only [xlist, ha.ev hx, ha.ev hy]
    have : xpCall P (F.ev P) ⟨.builtin .min, #[x, y], ats⟩ ty = some (.int .i64 (if q < p then q else p)) := by
      simp only [xpCall, hxl, xbuiltin]
      rfl
    rw [this]
    have e : (if q < p then q else p) = Min.min p q := by rw [Int.min_def]; split <;> split <;> omega
    rw [e]; rfl
  | max hd hx hy hj =>
    rename_i d x y p q ats ty pos af g
    refine J.pure hg hd (fun F H r ha hs => ?_) hj
    show soPure (xpCall P (F.ev P) ⟨.builtin .max, #[x, y], ats⟩ ty) D H rc = _
    have hxl : xlist (F.ev P) (#[x, y] : Array Operand).toList = some [.int .i64 p, .int .i64 q] := by simp only [xlist, ha.ev hx, ha.ev hy]
    have : xpCall P (F.ev P) ⟨.builtin .max, #[x, y], ats⟩ ty = some (.int .i64 (if q > p then q else p)) := by
      simp only [xpCall, hxl, xbuiltin]
      rfl
    rw [this]
    have e : (if q > p then q else p) = Max.max p q := by rw [Int.max_def]; split <;> split <;> omega
    rw [e]; rfl
  | send hx hy hat hb hu hj =>
    rename_i x y r cap l v L' ty pos af g
    refine J.op (D' := D) (rc' := rc) (fun u L1 => L1 = L') hg rfl (fun F H ha hs => ?_) (fun u L1 h => ?_)
    · obtain ⟨h2, h3⟩ := hs.upd hu
      refine ⟨0, undef, _, _, ?_, h2, h3, rfl⟩
      show soSend (F.ev P) x y D H rc = _
      unfold soSend
      rw [ha.ev hx, ha.ev hy]
      have : Nat.blt l.length cap = true := blt_spec.2 hb.lt
      simp only [xsend, hs.at hat, this]
    · subst h; exact hj
  | select hd hx ht hz hat hsel =>
    rename_i d x e r cap l zv ty pos af g tk sz tb ag z
    have hzz : xzero P e = some zv := by
      obtain ⟨zz, z1, z2, _⟩ := (hT _ _ ht).zero
      rw [z1]
      congr 1
      rw [z2]
      simp only
      cases ag with
      | true => simp only [mkV, Option.some.injEq] at hz; exact hz
      | false =>
        match z, hz with
        | [v], hz => simp only [mkV, Option.some.injEq] at hz; exact hz
        | [], hz => simp [mkV] at hz
        | _ :: _ :: _, hz => simp [mkV] at hz
    cases hsel with
    | none hj =>
      refine J.pure hg hd (fun F H r' ha hs => ?_) hj
      show soHeap (xselect1 P (F.ev P) H [⟨x, none, e⟩] false) D rc = _
      unfold xselect1
      simp only [ha.ev hx, hzz, chanHead, hs.at hat, soHeap]
    | some hu hj =>
      rename_i v l L'
      refine J.op (D' := D) (rc' := rc) (fun u L1 => u = .tuple ⟨[.int .i64 0, .bool true, v]⟩ ∧ L1 = L') hg hd (fun F H ha hs => ?_) (fun u L1 h => ?_)
      · obtain ⟨h2, h3⟩ := hs.upd hu
        refine ⟨0, _, _, _, ?_, h2, h3, rfl, rfl⟩
        show soHeap (xselect1 P (F.ev P) H [⟨x, none, e⟩] false) D rc = _
        unfold xselect1
        simp only [ha.ev hx, hzz, chanHead, hs.at hat, soHeap]
      · obtain ⟨rfl, rfl⟩ := h; exact hj
  | panic hx hq =>
    refine J.panicOp hg (fun F H r ha hs => ?_) hq
    show soPanic (F.ev P _) H = _
    rw [ha.ev hx]; rfl
  | defer hf hl hc hj =>
    rename_i fo args ats f args' fv vs ty pos af g
    refine J.op (D' := (f, args') :: D) (rc' := rc) (fun u L1 => L1 = L) hg rfl (fun F H ha hs => ?_) (fun u L1 h => ?_)
    · refine ⟨0, undef, H, L, ?_, hs, Frm.refl _ _, rfl⟩
      show soDefer (F.ev P) ⟨.value fo, args, ats⟩ D H rc = _
      unfold soDefer
      simp only [ha.ev hf, xlist_agree ha _ _ hl, hc]
    · subst h; exact hj
  | recover hd hr =>
    cases hr with
    | ret hj =>
      rename_i d ats ty pos af g
      refine J.op (D' := D) (rc' := .ret) (fun u L1 => u = .nilIface ∧ L1 = L) hg hd (fun F H ha hs => ⟨0, _, H, L, rfl, hs, Frm.refl _ _, rfl, rfl⟩) (fun u L1 h => ?_)
      obtain ⟨rfl, rfl⟩ := h; exact hj
    | pan hj =>
      rename_i d ats ty pos af g v
      refine J.op (D' := D) (rc' := .pan v true) (fun u L1 => u = v ∧ L1 = L) hg hd (fun F H ha hs => ⟨0, _, H, L, rfl, hs, Frm.refl _ _, rfl, rfl⟩) (fun u L1 h => ?_)
      obtain ⟨rfl, rfl⟩ := h; exact hj
  | assert hd hx ht htk hz has =>
    rename_i d x t xt v zv ok ty pos af g tk sz tb ag z
    obtain ⟨dd, h1, h2⟩ := (hT _ _ ht).notIface (fun x e => by rw [← e]; constructor <;> (intro e'; simp only at e'; rw [e'] at htk; cases htk))
    have hzz : xzero P t = some zv := by
      obtain ⟨zz, z1, z2, _⟩ := (hT _ _ ht).zero
      rw [z1]
      congr 1
      rw [z2]
      simp only
      cases ag with
      | true => simp only [mkV, Option.some.injEq] at hz; exact hz
      | false =>
        match z, hz with
        | [v], hz => simp only [mkV, Option.some.injEq] at hz; exact hz
        | [], hz => simp [mkV] at hz
        | _ :: _ :: _, hz => simp [mkV] at hz
    have key : ∀ w, xtypeAssert P v t ok = some w → J P hk n Q (.ops a rest :: K) ((d, w) :: E) D M L rc → J P hk n Q (.ops a (⟨some d, .typeAssert x xt t ok, ty, pos, af, g⟩ :: rest) :: K) E D M L rc := by
      intro w hw hj
      refine J.pure hg hd (fun F H r ha hs => ?_) hj
      show soPure (xpAssert P (F.ev P) x t ok) D H rc = _
      unfold xpAssert
      rw [ha.ev hx]
      simp only [hw, soPure]
    cases has with
    | yes hj =>
      refine key _ ?_ hj
      unfold xtypeAssert
      rw [h1]
      cases dd <;> first | exact absurd rfl (h2 _) | simp only [Nat.beq_refl]
    | yes1 hj =>
      refine key _ ?_ hj
      unfold xtypeAssert
      rw [h1]
      cases dd <;> first | exact absurd rfl (h2 _) | simp only [Nat.beq_refl]
    | no hne hj =>
      refine key _ ?_ hj
      unfold xtypeAssert
      rw [h1]
      cases dd <;> first | exact absurd rfl (h2 _) | simp only [hne, hzz, Option.map_some]
  | convert hd hx ht hsi hcv =>
    rename_i d s t x v i si ty pos af g
    have key : ∀ w, clo v = true → xclosed P (Go.convert s t v) = some w → J P hk n Q (.ops a rest :: K) ((d, w) :: E) D M L rc → J P hk n Q (.ops a (⟨some d, .convert s t x, ty, pos, af, g⟩ :: rest) :: K) E D M L rc := by
      intro w hc hw hj
      refine J.pure hg hd (fun F H r ha hs => ?_) hj
      show soConv P (F.ev P) s t x D H rc = _
      unfold soConv
      have : xpConv P (F.ev P) s t x = some w := by
        unfold xpConv
        rw [ha.ev hx]
        simp only [hc, hw]
      rw [this]
    obtain ⟨ds, hds, _⟩ := (hT _ _ hsi).under
    have cv : ∀ {kk : IntKind} {k : IntKind} {q : Int}, xunder P t = some (.int kk) → xclosed P (Go.convert s t (.int k q)) = some (.int kk (kk.wrap q)) := by
      intro kk k q hu
      unfold xclosed Go.convert
      rw [peel_bind (peel_under hds), peel_bind (peel_under hu)]
      cases ds <;> rfl
    generalize hk' : i.k = ik at hcv
    cases hcv with
    | i64 hr hj => exact key _ rfl (by rw [cv ((hT _ _ ht).int hk'), wrap_rng hr]) hj
    | u8 hr hj =>
      refine key _ rfl (by rw [cv ((hT _ _ ht).int hk')]) ?_
      rename_i k q
      have : IntKind.u8.wrap q = q := by unfold IntKind.wrap; simp [IntKind.bits, IntKind.signed]; omega
      rw [this]; exact hj
end
end
end Go.Proofs.YtibeinbfhhoeiaaGreatDoor.Ab

namespace Go.Proofs.YtibeinbfhhoeiaaGreatDoor.Ab
open Go
noncomputable section

/- ## what a function promises -/
inductive Res where
  | ret (v : Value)
  | pan (v : Value)
def toEnd : Res → Heap → AEnd
  | .ret v, H => .ret v H
  | .pan v, H => .panic v H

def Con (P : Program) (hk : FuncId → Option (List Value → Heap → AEnd)) (f : FuncId) (args : List Value) (M : Imm) (l : Seg) (Qc : Res → Seg → Prop) : Prop :=
  ∀ H, Sat M l H → ∃ k x H' l', (run P hk k).call f args H = toEnd x H' ∧ Sat M l' H' ∧ Frm l H l' H' ∧ Qc x l'

/-- It returns. -/
def Returns (Qr : Value → Seg → Prop) : Res → Seg → Prop
  | .ret v, l => Qr v l
  | .pan _, _ => False
/-- It returns this, and leaves the own things alone. -/
def Gives (u : Value) (l : Seg) : Res → Seg → Prop := Returns fun v l' => v = u ∧ l' = l

theorem Gives.mk {u v : Value} {l l' : Seg} (h : v = u) (h' : l' = l) : Gives u l (.ret v) l' := ⟨h, h'⟩
theorem Con.mono {P : Program} {hk : FuncId → Option (List Value → Heap → AEnd)} {f : FuncId} {args : List Value} {M : Imm} {l : Seg} {Qc Qd : Res → Seg → Prop} (h : Con P hk f args M l Qc) (hq : ∀ x l', Qc x l' → Qd x l') :
    Con P hk f args M l Qd := fun H hs => let ⟨k, x, H', l', a, b, c, d⟩ := h H hs; ⟨k, x, H', l', a, b, c, hq x l' d⟩

theorem Sat.left {M : Imm} {l r : Seg} {H : Heap} (h : Sat M (l ++ r) H) : Sat M l H := h.sub (List.sublist_append_left l r)

/-- What is not handed on, stays. -/
theorem Sat.frame {M : Imm} {l r l' : Seg} {H H' : Heap} (h : Sat M (l ++ r) H) (h' : Sat M l' H') (hf : Frm l H l' H') : Sat M (l' ++ r) H' ∧ Frm (l ++ r) H (l' ++ r) H' := by
  have hnd := h.nd
  rw [List.map_append, List.nodup_append] at hnd
  obtain ⟨n1, n2, n3⟩ := hnd
  have hr : ∀ p ∈ r, H'.get p.1 = some p.2 ∧ ∀ q ∈ l', q.1 ≠ p.1 := fun p hp => hf.keep p.1 p.2 (h.own p (List.mem_append_right _ hp)) fun q hq =>
    n3 _ (List.mem_map_of_mem hq) _ (List.mem_map_of_mem hp)
  refine ⟨{ wf := h'.wf, imm := h'.imm, nd := ?_, own := ?_, apart := ?_ }, ⟨hf.nxt, ?_⟩⟩
  · rw [List.map_append, List.nodup_append]
    refine ⟨h'.nd, n2, fun a ha b hb e => ?_⟩
    obtain ⟨q, hq, rfl⟩ := List.mem_map.1 ha
    obtain ⟨p, hp, rfl⟩ := List.mem_map.1 hb
    exact (hr p hp).2 q hq e
  · intro p hp
    rcases List.mem_append.1 hp with hp | hp
    · exact h'.own p hp
    · exact (hr p hp).1
  · intro p hp
    rcases List.mem_append.1 hp with hp | hp
    · exact h'.apart p hp
    · exact h.apart p (List.mem_append_right _ hp)
  · intro id o ho hn
    obtain ⟨h1, h2⟩ := hf.keep id o ho fun p hp => hn p (List.mem_append_left _ hp)
    refine ⟨h1, fun p hp => ?_⟩
    rcases List.mem_append.1 hp with hp | hp
    · exact h2 p hp
    · exact hn p (List.mem_append_right _ hp)

/- ## calls -/
section
variable {P : Program} {hk : FuncId → Option (List Value → Heap → AEnd)} {n : Nat} {Q : LPost} {K : List KI} {D : Dl} {M : Imm} {L : List Seg} {rc : RC} {a : Array Oper} {rest : List Oper} {E : Env}

theorem soCall_of {F : Fr} (ha : Agree F E) {fo : Operand} {args : Array Operand} {ats : Array TypeId} {ty : TypeId} {fv : Value} {vs args' : List Value} {f : FuncId} {r : Rec} {H : Heap} (hf : E.ev P fo = some fv) (hl : xlist (E.ev P) args.toList = some vs)
    (hc : callee fv vs = some (f, args')) : soCall P r (F.ev P) ⟨.value fo, args, ats⟩ ty D H rc = soEnd (r.call f args' H) D rc := by
  unfold soCall
  simp only
  unfold soValue
  rw [ha.ev hf]
  simp only
  rw [xlist_agree ha _ _ hl]
  simp only [soEnter, hc]

/-- A call: what it is handed, what it gives back. -/
theorem J.call {dst : Option Tmp} {fo : Operand} {args : Array Operand} {ats : Array TypeId} {ty : TypeId} {pos : String} {af : Array Edge} {g : Option (Nat × Bool)} {fv : Value} {vs args' : List Value} {f : FuncId} {R : List Seg} {l0 : Seg}
    {Qc : Res → Seg → Prop} (hg : guardE a E g = some true) (hd : dstOk n dst = true) (hf : E.ev P fo = some fv) (hl : xlist (E.ev P) args.toList = some vs) (hc : callee fv vs = some (f, args'))
    (hp : L.flatten.Perm (l0 ++ R.flatten)) (c : Con P hk f args' M l0 Qc)
    (hr : ∀ v l', Qc (.ret v) l' → J P hk n Q (.ops a rest :: K) (E.put dst v) D M (l' :: R) rc)
    (hq : ∀ v l', Qc (.pan v) l' → Q E D M (l' :: R) rc (.pan v false)) : J P hk n Q (.ops a (⟨dst, .call ⟨.value fo, args, ats⟩, ty, pos, af, g⟩ :: rest) :: K) E D M L rc := by
  intro F H ha hs0
  have hs := hs0.perm hp
  obtain ⟨k, x, H', l', h1, h2, h3, h4⟩ := c H hs.left
  obtain ⟨s1, s2⟩ := hs.frame h2 h3
  have hstep : stepOp P (run P hk k) ⟨dst, .call ⟨.value fo, args, ats⟩, ty, pos, af, g⟩ F D H rc = soEnd (toEnd x H') D rc := by
    show soCall P (run P hk k) (F.ev P) ⟨.value fo, args, ats⟩ ty D H rc = _
    rw [soCall_of ha hf hl hc, h1]
  cases x with
  | ret v =>
    have ha' : Agree (F.put dst v) (E.put dst v) := by
      cases dst with
      | none => exact ha
      | some d => exact ha.put d v
    obtain ⟨out, e1, e2⟩ := hr v l' h4 _ H' ha' s1
    exact ⟨out, e1.head fun o hne => itm_op (ha.guard hg) hd hstep o hne, e2.after (MLe.refl _) (Frm.perm_left hp s2)⟩
  | pan v =>
    refine ⟨_, .panic (v := v) (F' := F) (D' := D) (H' := H') (rc' := rc) ⟨k + 1, ?_⟩, E, M, l' :: R, ha, s1, MLe.refl _, Frm.perm_left hp s2, hq v l' h4⟩
    rw [ops_succ]
    unfold stepOps
    simp only [ha.guard hg, hstep, toEnd, soEnd, soThen]

end

/-- A call, its callee and what it is handed worked out. -/
def CallJ (P : Program) (hk : FuncId → Option (List Value → Heap → AEnd)) (n : Nat) (Q : LPost) (K : List KI) (D : Dl) (M : Imm) (L : List Seg) (rc : RC) (a : Array Oper) (rest : List Oper) (E : Env) (dst : Option Tmp) (f : FuncId) (args : List Value) : Prop :=
  ∃ (l0 : Seg) (R : List Seg) (Qc : Res → Seg → Prop), L.flatten.Perm (l0 ++ R.flatten) ∧ Con P hk f args M l0 Qc ∧
    (∀ v l', Qc (.ret v) l' → J P hk n Q (.ops a rest :: K) (E.put dst v) D M (l' :: R) rc) ∧ (∀ v l', Qc (.pan v) l' → Q E D M (l' :: R) rc (.pan v false))

section
variable {P : Program} {hk : FuncId → Option (List Value → Heap → AEnd)} {n : Nat} {Q : LPost} {K : List KI} {D : Dl} {M : Imm} {L : List Seg} {rc : RC} {a : Array Oper} {rest : List Oper} {E : Env} {dst : Option Tmp} {f : FuncId} {args : List Value}

theorem CallJ.mk {l0 : Seg} {R : List Seg} {Qc : Res → Seg → Prop} (hp : L.flatten.Perm (l0 ++ R.flatten)) (c : Con P hk f args M l0 Qc) (hr : ∀ v l', Qc (.ret v) l' → J P hk n Q (.ops a rest :: K) (E.put dst v) D M (l' :: R) rc)
    (hq : ∀ v l', Qc (.pan v) l' → Q E D M (l' :: R) rc (.pan v false)) : CallJ P hk n Q K D M L rc a rest E dst f args := ⟨l0, R, Qc, hp, c, hr, hq⟩
/-- .. of a function that returns. -/
theorem CallJ.ret {l0 : Seg} {R : List Seg} {Qr : Value → Seg → Prop} (hp : L.flatten.Perm (l0 ++ R.flatten)) (c : Con P hk f args M l0 (Returns Qr)) (hr : ∀ v l', Qr v l' → J P hk n Q (.ops a rest :: K) (E.put dst v) D M (l' :: R) rc) :
    CallJ P hk n Q K D M L rc a rest E dst f args := ⟨l0, R, _, hp, c, hr, fun _ _ h => h.elim⟩
/-- .. that is handed nothing of one's own. -/
theorem CallJ.ret0 {Qr : Value → Seg → Prop} (c : Con P hk f args M [] (Returns Qr)) (hr : ∀ v l', Qr v l' → J P hk n Q (.ops a rest :: K) (E.put dst v) D M (l' :: L) rc) :
    CallJ P hk n Q K D M L rc a rest E dst f args := CallJ.ret (R := L) (by simp) c hr
/-- .. and that gives a value, and nothing else. -/
theorem CallJ.val {u : Value} (c : Con P hk f args M [] (Gives u [])) (hr : J P hk n Q (.ops a rest :: K) (E.put dst u) D M L rc) : CallJ P hk n Q K D M L rc a rest E dst f args :=
  CallJ.ret0 c fun v l' h => by obtain ⟨rfl, rfl⟩ := h; exact hr.drop (by simp)
/-- .. and leaves what it was handed. -/
theorem CallJ.same {u : Value} {s : Seg} {R : List Seg} (hp : Pick L s R) (c : Con P hk f args M s (Gives u s)) (hr : J P hk n Q (.ops a rest :: K) (E.put dst u) D M L rc) : CallJ P hk n Q K D M L rc a rest E dst f args :=
  CallJ.ret hp.perm c fun v l' h => by obtain ⟨rfl, rfl⟩ := h; exact hr.perm (by simpa using hp.perm.symm)
end

section
variable (P : Program) (hk : FuncId → Option (List Value → Heap → AEnd)) (T : TT) (n : Nat) (Q : LPost) (K : List KI) (D : Dl) (M : Imm) (L : List Seg) (rc : RC) (E : Env)

inductive GJ (a : Array Oper) (rest : List Oper) : Bool → Oper → Prop where
  | skip {d op ty pos af g} : dstOk n (some d) = true → J P hk n Q (.ops a rest :: K) ((d, undef) :: E) D M L rc → GJ a rest false ⟨some d, op, ty, pos, af, g⟩
  | skip0 {op ty pos af g} : J P hk n Q (.ops a rest :: K) E D M L rc → GJ a rest false ⟨none, op, ty, pos, af, g⟩
  | call {dst fo args ats ty pos af g fv vs f args'} : dstOk n dst = true → E.ev P fo = some fv → xlist (E.ev P) args.toList = some vs → callee fv vs = some (f, args') → CallJ P hk n Q K D M L rc a rest E dst f args' →
      GJ a rest true ⟨dst, .call ⟨.value fo, args, ats⟩, ty, pos, af, g⟩
  | take {o} : OpJ P hk T n Q K D M L rc a rest E o → GJ a rest true o
inductive CondJ : Bool → Code → Code → Prop where
  | t {x y} : J P hk n Q (.code x :: K) E D M L rc → CondJ true x y
  | f {x y} : J P hk n Q (.code y :: K) E D M L rc → CondJ false x y
end

section
variable (P : Program) (hk : FuncId → Option (List Value → Heap → AEnd)) (T : TT) (n : Nat) (Q : LPost) (D : Dl) (M : Imm) (L : List Seg) (rc : RC) (E : Env)
inductive Step : List KI → Prop where
  | seq {x y K} : J P hk n Q (.code x :: .code y :: K) E D M L rc → Step (.code (.seq x y) :: K)
  | block {id x K} : J P hk n Q (.code x :: .blk id :: K) E D M L rc → Step (.code (.block id x) :: K)
  | blk {id K} : J P hk n Q K E D M L rc → Step (.blk id :: K)
  | skip {K} : J P hk n Q K E D M L rc → Step (.code .skip :: K)
  | label {l K} : J P hk n Q K E D M L rc → Step (.code (.label l) :: K)
  | exit {id K K'} : popTo id K = some K' → J P hk n Q K' E D M L rc → Step (.code (.exit id) :: K)
  | region {id a K} : J P hk n Q (.ops a a.toList :: K) E D M L rc → Step (.code (.region id a false) :: K)
  | opsEnd {a K} : J P hk n Q K E D M L rc → Step (.ops a [] :: K)
  | cond {c x y b K} : E.ev P c = some (.bool b) → CondJ P hk n Q K D M L rc E b x y → Step (.code (.cond c x y) :: K)
  | op {a o rest b K} : guardE a E o.guard = some b → GJ P hk T n Q K D M L rc E a rest b o → Step (.ops a (o :: rest) :: K)
end

section
variable {P : Program} {hk : FuncId → Option (List Value → Heap → AEnd)} {T : TT} {n : Nat} {Q : LPost} {K : List KI} {D : Dl} {M : Imm} {L : List Seg} {rc : RC} {E : Env}

theorem stp (hT : TOk P T) (h : Step P hk T n Q D M L rc E K) : J P hk n Q K E D M L rc := by
  cases h with
  | seq h => exact h.seq
  | block h => exact h.block
  | blk h => exact h.blk
  | skip h => exact h.skip
  | label h => exact h.label
  | exit hp h => exact h.exit hp
  | region h => exact h.region
  | opsEnd h => exact h.opsEnd
  | cond hc h =>
    cases h with
    | t h => exact J.cond_t hc h
    | f h => exact J.cond_f hc h
  | op hg h =>
    cases h with
    | skip hd hj => exact J.pass hg hd hj
    | skip0 hj => exact J.pass hg rfl hj
    | call hd hf hl hc hj =>
      obtain ⟨l0, R, Qc, h1, h2, h3, h4⟩ := hj
      exact J.call hg hd hf hl hc h1 h2 h3 h4
    | take ho => exact ho.ok hT hg
end

/- ## rounds that are counted -/
theorem J.forN {P : Program} {hk : FuncId → Option (List Value → Heap → AEnd)} {n : Nat} {Q : LPost} {K : List KI} {D : Dl} {M : Imm} {L : List Seg} {rc : RC} {E : Env} {x : Code} (N : Nat) (I : Nat → Env → List Seg → Prop) (h0 : I 0 E L)
    (hr : ∀ k E L, k ≤ N → I k E L → (k < N → ∀ E' L', I (k + 1) E' L' → J P hk n Q (.code (.loop x) :: K) E' D M L' rc) → J P hk n Q (.code x :: .code (.loop x) :: K) E D M L rc) :
    J P hk n Q (.code (.loop x) :: K) E D M L rc := by
  refine J.while (fun m E' D' M' L' rc' => ∃ k, k ≤ N ∧ m = N - k ∧ I k E' L' ∧ D' = D ∧ M' = M ∧ rc' = rc) (m := N) ⟨0, Nat.zero_le _, rfl, h0, rfl, rfl, rfl⟩ ?_
  rintro m E' D' M' L' rc' ⟨k, hk1, rfl, hI, rfl, rfl, rfl⟩ ih
  exact hr k E' L' hk1 hI fun hlt E'' L'' h => ih _ E'' _ _ L'' _ (by omega) ⟨k + 1, hlt, rfl, h, rfl, rfl, rfl⟩

/- ## leaving a function -/
inductive RVal (T : TT) (M : Imm) (L : List Seg) (E : Env) : ResultVar → Value → Prop where
  | tmp {t v} : E.get t = some v → RVal T M L E (.tmp t) v
  | cell {a t p v} : E.get a = some (.pointer (some p)) → Ld T M L t (.pointer (some p)) v → RVal T M L E (.cell a t) v
inductive RVals (T : TT) (M : Imm) (L : List Seg) (E : Env) : List ResultVar → List Value → Prop where
  | nil : RVals T M L E [] []
  | cons {x l v vs} : RVal T M L E x v → RVals T M L E l vs → RVals T M L E (x :: l) (v :: vs)
def resV : List Value → Value
  | [v] => v
  | vs => .tuple ⟨vs⟩

/-- What comes of a frame that is left: deferred calls, and the end. -/
def Lv (P : Program) (hk : FuncId → Option (List Value → Heap → AEnd)) (fn : Func) (Qc : Res → Seg → Prop) (E : Env) (D : Dl) (M : Imm) (L : List Seg) (m : RC) : Prop :=
  ∀ F H, Agree F E → Sat M L.flatten H → ∃ k x H' l', (run P hk k).defers fn F D m H = toEnd x H' ∧ Sat M l' H' ∧ Frm L.flatten H l' H' ∧ Qc x l'

section
variable {P : Program} {hk : FuncId → Option (List Value → Heap → AEnd)} {T : TT} {fn : Func} {Qc : Res → Seg → Prop} {D : Dl} {M : Imm} {L : List Seg} {m : RC} {E : Env}

theorem rvals_ok (hT : TOk P T) {F : Fr} {H : Heap} (ha : Agree F E) (hs : Sat M L.flatten H) : ∀ {l : List ResultVar} {vs : List Value}, RVals T M L E l vs → xresultL P H F l = some vs := by
  intro l vs h
  induction h with
  | nil => rfl
  | @cons x l v vs h1 _ ih =>
    simp only [xresultL]
    have : xresult P H F x = some v := by
      cases h1 with
      | tmp h => exact ha _ _ h
      | cell h hl =>
        simp only [xresult, ha _ _ h]
        exact hl.ok hT hs
    rw [this, ih]

theorem Lv.ret (hT : TOk P T) {l : List ResultVar} {vs : List Value} {v : Value} {R : List Seg} {l' : Seg} (hres : fn.results.toList = l) (hr : RVals T M L E l vs) (hv : resV vs = v) (hp : L.flatten.Perm (l' ++ R.flatten)) (hq : Qc (.ret v) l') :
    Lv P hk fn Qc E [] M L .ret := by
  intro F H ha hs
  refine ⟨1, .ret v, H, l', ?_, (hs.perm hp).left, ⟨Nat.le_refl _, fun id o ho hn => ⟨ho, fun p hp' => hn p (hp.mem_iff.2 (List.mem_append_left _ hp'))⟩⟩, hq⟩
  show stepDefers P (run P hk 0) fn F [] .ret H = _
  unfold stepDefers
  have : xresults P H F fn.results.toList = some v := by
    unfold xresults
    rw [hres, rvals_ok hT ha hs hr]
    subst hv
    unfold resV
    split <;> simp_all
  simp only [this, toEnd]
/-- .. of a function that makes nothing that lasts. -/
theorem Lv.ret0 (hT : TOk P T) {l : List ResultVar} {vs : List Value} {v : Value} (hres : fn.results.toList = l) (hr : RVals T M L E l vs) (hv : resV vs = v) (hq : Qc (.ret v) []) : Lv P hk fn Qc E [] M L .ret :=
  Lv.ret hT hres hr hv (R := L) (l' := []) (by simp) hq
theorem Lv.pan {v : Value} {R : List Seg} {l' : Seg} (hp : L.flatten.Perm (l' ++ R.flatten)) (hq : Qc (.pan v) l') : Lv P hk fn Qc E [] M L (.pan v false) := by
  intro F H ha hs
  exact ⟨1, .pan v, H, l', rfl, (hs.perm hp).left, ⟨Nat.le_refl _, fun id o ho hn => ⟨ho, fun p hp' => hn p (hp.mem_iff.2 (List.mem_append_left _ hp'))⟩⟩, hq⟩

/-- What a deferred call does. -/
def DCon (P : Program) (hk : FuncId → Option (List Value → Heap → AEnd)) (f : FuncId) (args : List Value) (M : Imm) (l : Seg) (m : RC) (R : Seg → RC → Prop) : Prop :=
  ∀ H, Sat M l H → ∃ k H' m' l', (run P hk k).dcall f args H m = some (H', m') ∧ Sat M l' H' ∧ Frm l H l' H' ∧ R l' m'

theorem defers_up {k j : Nat} (h : k ≤ j) {F : Fr} {H : Heap} {o : AEnd} (ho : o ≠ .none) (he : (run P hk k).defers fn F D m H = o) : (run P hk j).defers fn F D m H = o := by
  rw [(run_le P hk h).defers _ _ _ _ _ (by rw [he]; exact ho), he]

theorem Lv.defer {f : FuncId} {args : List Value} {R : List Seg} {l0 : Seg} {Rd : Seg → RC → Prop} (hp : L.flatten.Perm (l0 ++ R.flatten)) (c : DCon P hk f args M l0 m Rd)
    (h : ∀ l' m', Rd l' m' → Lv P hk fn Qc E D M (l' :: R) (settleRC m')) : Lv P hk fn Qc E ((f, args) :: D) M L m := by
  intro F H ha hs0
  have hs := hs0.perm hp
  obtain ⟨k, H', m', l', h1, h2, h3, h4⟩ := c H hs.left
  obtain ⟨s1, s2⟩ := hs.frame h2 h3
  obtain ⟨j, x, H'', l'', e1, e2, e3, e4⟩ := h l' m' h4 F H' ha s1
  obtain ⟨i, l1, l2⟩ := fuel2 (k1 := k) (k2 := j)
  refine ⟨i + 1, x, H'', l'', ?_, e2, (Frm.perm_left hp s2).trans e3, e4⟩
  show stepDefers P (run P hk i) fn F ((f, args) :: D) m H = _
  unfold stepDefers
  have hd : (run P hk i).dcall f args H m = some (H', m') := by rw [(run_le P hk l1).dcall _ _ _ _ (by rw [h1]; simp), h1]
  simp only [hd]
  exact defers_up l2 (by cases x <;> simp [toEnd]) e1
end

def argEnv : Nat → List Value → Env
  | _, [] => []
  | i, v :: l => (i, v) :: argEnv (i + 1) l
theorem argEnv_get : ∀ (l : List Value) (i t : Nat) (v : Value), (argEnv i l).get t = some v → i ≤ t ∧ l[t - i]? = some v
  | [], _, _, _, h => by cases h
  | u :: l, i, t, v, h => by
    simp only [argEnv, Env.get] at h
    split at h
    · rename_i hb
      have := Nat.eq_of_beq_eq_true hb
      subst this
      simp only [Option.some.injEq] at h
      subst h
      exact ⟨Nat.le_refl _, by simp⟩
    · obtain ⟨h1, h2⟩ := argEnv_get l (i + 1) t v h
      refine ⟨by omega, ?_⟩
      have : t - i = (t - (i + 1)) + 1 := by omega
      rw [this]; simpa using h2
theorem agree_args (args : List Value) : Agree (putArgs 0 args .lf) (argEnv 0 args) := by
  intro t v h
  obtain ⟨h1, h2⟩ := argEnv_get args 0 t v h
  rw [putArgs_get]
  have hlt : t < args.length := by
    rcases Nat.lt_or_ge t args.length with h | h
    · exact h
    · rw [List.getElem?_eq_none (by omega)] at h2; cases h2
  rw [if_pos ⟨h1, by omega⟩]
  exact h2

/-- A function by its body. -/
theorem Con.of_body {P : Program} {hk : FuncId → Option (List Value → Heap → AEnd)} {f : FuncId} {args : List Value} {M : Imm} {l : Seg} {Qc : Res → Seg → Prop} {fn : Func} {c : Code} {n : Nat} {E0 : Env} (h0 : hk f = none) (hf : P.funcs[f]? = some fn)
    (hb : fn.body = some c) (hnm : (fn.name == "runtime.NumGoroutine") = false) (hn : fn.ntmps = n) (hle : Nat.ble args.length n = true) (hE : argEnv 0 args = E0)
    (hj : J P hk n (fun E D M L _ m => Lv P hk fn Qc E D M L m) [.code c] E0 [] M [l] .norm) : Con P hk f args M l Qc := by
  subst hE
  intro H hs
  obtain ⟨out, h1, h2⟩ := hj _ H (agree_args args) (by simpa using hs)
  have hen : enters P f = some (fn, c) := by unfold enters; simp only [hf, hb, hnm]
  have fin : ∀ {o : Out} {F' D' H' M' L' E' m k}, (run P hk k).code n c (putArgs 0 args .lf) [] H .norm = o → o ≠ .none → (∀ j, scLeave (run P hk j) fn o = (run P hk j).defers fn F' D' m H') →
      Agree F' E' → Sat M' (List.flatten L') H' → MLe M M' → Frm l H (List.flatten L') H' → Lv P hk fn Qc E' D' M' L' m →
      ∃ k x H' l', (run P hk k).call f args H = toEnd x H' ∧ Sat M l' H' ∧ Frm l H l' H' ∧ Qc x l' := by
    intro o F' D' H' M' L' E' m k hc ho hsc ha hs' hm hfr hlv
    obtain ⟨j, x, H'', l'', e1, e2, e3, e4⟩ := hlv F' H' ha hs'
    obtain ⟨i, l1, l2⟩ := fuel2 (k1 := k) (k2 := j)
    refine ⟨i + 1, x, H'', l'', ?_, ⟨e2.wf, fun id c t h => e2.imm id c t (hm _ _ h), e2.nd, e2.own, fun p hp => ?_⟩, hfr.trans e3, e4⟩
    · show stepCall P (run P hk i) hk f args H = _
      unfold stepCall
      simp only [h0, hen, hn, hle, code_up l1 ho hc, hsc i]
      exact defers_up l2 (by cases x <;> simp [toEnd]) e1
    · have := e2.apart p hp
      cases e : M p.1 with
      | none => rfl
      | some y => rw [hm _ _ e] at this; cases this
  cases h1 with
  | go a b =>
    obtain ⟨k, hk'⟩ := a
    cases b
    obtain ⟨E', M', L', a1, a2, a3, a4, a5⟩ := h2
    exact fin hk' (by simp) (fun j => rfl) a1 a2 a3 (by simpa using a4) a5
  | exit a b c => simp [popTo] at b
  | ret a =>
    obtain ⟨k, hk'⟩ := a
    obtain ⟨E', M', L', a1, a2, a3, a4, a5⟩ := h2
    exact fin hk' (by simp) (fun j => rfl) a1 a2 a3 (by simpa using a4) a5
  | panic a =>
    obtain ⟨k, hk'⟩ := a
    obtain ⟨E', M', L', a1, a2, a3, a4, a5⟩ := h2
    exact fin hk' (by simp) (fun j => rfl) a1 a2 a3 (by simpa using a4) a5
end
end Go.Proofs.YtibeinbfhhoeiaaGreatDoor.Ab

namespace Go.Proofs.YtibeinbfhhoeiaaGreatDoor.Ab
open Go
noncomputable section

theorem bT {p : Prop} [Decidable p] (h : p) : Value.bool true = .bool (decide p) := by rw [decide_eq_true h]
theorem bF {p : Prop} [Decidable p] (h : ¬ p) : Value.bool false = .bool (decide p) := by rw [decide_eq_false h]

section
variable {P : Program} {hk : FuncId → Option (List Value → Heap → AEnd)} {T : TT} {n : Nat} {K : List KI} {M : Imm} {L : List Seg} {rc : RC} {E : Env} {fn : Func}

/-- The end of a function that gives a value and leaves what it was handed. -/
theorem J.give {u : Value} {s : Seg} {R : List Seg} {l : List ResultVar} {vs : List Value} (hT : TOk P T) (hres : fn.results.toList = l) (hr : RVals T M L E l vs) (hp : Pick L s R) (hu : resV vs = u) :
    J P hk n (fun E D M L _ m => Lv P hk fn (Gives u s) E D M L m) (.code .ret :: K) E [] M L rc := J.ret (Lv.ret hT hres hr rfl hp.perm ⟨hu, rfl⟩)
theorem J.give0 {u : Value} {l : List ResultVar} {vs : List Value} (hT : TOk P T) (hres : fn.results.toList = l) (hr : RVals T M L E l vs) (hu : resV vs = u) :
    J P hk n (fun E D M L _ m => Lv P hk fn (Gives u []) E D M L m) (.code .ret :: K) E [] M L rc := J.ret (Lv.ret0 hT hres hr rfl ⟨hu, rfl⟩)
/-- .. of one that returns. -/
theorem J.rets {Qr : Value → Seg → Prop} {v : Value} {s : Seg} {R : List Seg} {l : List ResultVar} {vs : List Value} (hT : TOk P T) (hres : fn.results.toList = l) (hr : RVals T M L E l vs) (hv : resV vs = v) (hp : L.flatten.Perm (s ++ R.flatten)) (hq : Qr v s) :
    J P hk n (fun E D M L _ m => Lv P hk fn (Returns Qr) E D M L m) (.code .ret :: K) E [] M L rc := J.ret (Lv.ret hT hres hr hv hp hq)
theorem J.retsD {Qr : Value → Seg → Prop} {v : Value} {s : Seg} {R : List Seg} {l : List ResultVar} {vs : List Value} (hT : TOk P T) (hres : fn.results.toList = l) (hr : RVals T M L E l vs) (hv : resV vs = v) (hp : L.flatten.Perm (s ++ R.flatten)) (hq : Qr v s) :
    J P hk n (fun E D M L _ m => Lv P hk fn (Returns Qr) E D M L m) [] E [] M L rc := J.done (Lv.ret hT hres hr hv hp hq)
end

/- ## what is frozen -/
theorem rowOf_one (id : Nat) (c : List Value) (t : TypeId) (k : Kind) (h : isDead k = false) : rowOf [(id, .row c t k)] id = some (c, t) := by
  simp only [rowOf, Nat.beq_refl, h]

theorem freeze_one (M : Imm) (id : Nat) (c : List Value) (t : TypeId) (k : Kind) (h : isDead k = false) : freeze M [(id, .row c t k)] id = some (c, t) := by
  unfold freeze
  rw [rowOf_one _ _ _ _ h]
/-- A row as a slice that nobody writes any more. -/
theorem isSl_row {M : Imm} {α : Type} {e : El α} {id : Nat} {l : List α} {t : TypeId} {cells : List Value} (hc : cells = l.flatMap e.enc) (hm : M id = some (cells, t)) (hsz : ∀ x, (e.enc x).length = e.sz) (hl : l.length ≤ 1099511627776) : IsSl M e (some ⟨id, 0, none⟩) l where
  some _ := rfl
  len := hl
  read k hk := ⟨id, 0, cells, t, rfl, hm, by rw [Nat.zero_add, hc]; exact takeX_flatMap hsz l k hk⟩

theorem isSl_own {M : Imm} {α : Type} {e : El α} {s : Seg} {l : List α} {t : TypeId} {N : Imm} (h : Own t e s l) (hm : MLe (freeze M s) N) (hsz : ∀ x, (e.enc x).length = e.sz) (hl : l.length ≤ 1099511627776) : IsSl N e (segA s) l := by
  rcases h with ⟨rfl, rfl⟩ | ⟨id, rfl, _⟩
  · exact IsSl.nil N e
  · exact isSl_row (t := t) rfl (hm id _ (freeze_one M id _ t .opn rfl)) hsz hl

section
variable {P : Program} {hk : FuncId → Option (List Value → Heap → AEnd)} {n : Nat} {Q : LPost} {K : List KI} {E : Env} {D : Dl} {M : Imm} {L : List Seg} {rc : RC}
/-- A slice that has grown is grown no more. -/
theorem J.freezeOwn {α : Type} {e : El α} {s : Seg} {R : List Seg} {l : List α} {t : TypeId} (ho : Own t e s l) (hp : Pick L s R) (hsz : ∀ x, (e.enc x).length = e.sz) (hl : l.length ≤ 1099511627776)
    (h : ∀ N, MLe M N → IsSl N e (segA s) l → J P hk n Q K E D N R rc) : J P hk n Q K E D M L rc :=
  J.freeze s hp.perm fun hle => h _ hle (isSl_own ho (MLe.refl _) hsz hl)
theorem J.freezeRow {α : Type} {e : El α} {id : Nat} {k : Kind} {R : List Seg} {l : List α} {t : TypeId} (hp : Pick L [(id, .row (l.flatMap e.enc) t k)] R) (hd : isDead k = false) (hsz : ∀ x, (e.enc x).length = e.sz) (hl : l.length ≤ 1099511627776)
    (h : ∀ N, MLe M N → IsSl N e (some ⟨id, 0, none⟩) l → J P hk n Q K E D N R rc) : J P hk n Q K E D M L rc :=
  J.freeze _ hp.perm fun hle => h _ hle (isSl_row (t := t) rfl (freeze_one M id _ t k hd) hsz hl)
end

/-- A slice of the call's own that is read alone. -/
def RdS (t : TypeId) {α : Type} (e : El α) (s : Seg) (l : List α) : Prop := (s = [] ∧ l = []) ∨ ∃ id rest k, s = [(id, .row (l.flatMap e.enc ++ rest) t k)] ∧ isDead k = false
theorem Own.rd {t : TypeId} {α : Type} {e : El α} {s : Seg} {l : List α} (h : Own t e s l) : RdS t e s l := by
  rcases h with h | ⟨id, h, _⟩
  · exact .inl h
  · exact .inr ⟨id, [], .opn, by rw [List.append_nil]; exact h, rfl⟩
theorem takeX_flatMap_app {α : Type} {e : El α} (hsz : ∀ x, (e.enc x).length = e.sz) (l : List α) (rest : List Value) (k : Nat) (h : k < l.length) :
    takeX e.sz ((l.flatMap e.enc ++ rest).drop (k * e.sz)) = some (e.enc (nthAt e.dflt l k)) := by
  have hle : k * e.sz + e.sz ≤ (l.flatMap e.enc).length := by
    rw [flatMap_len hsz, ← Nat.succ_mul]
    exact Nat.mul_le_mul_right _ h
  rw [List.drop_append_of_le_length (by omega), takeX_of _ _ (by rw [List.length_append, List.length_drop]; omega), List.take_append_of_le_length (by rw [List.length_drop]; omega), take_flatMap hsz l k h]
theorem isSl_rd {M N : Imm} {α : Type} {e : El α} {s : Seg} {l : List α} {t : TypeId} (h : RdS t e s l) (hm : MLe (freeze M s) N) (hsz : ∀ x, (e.enc x).length = e.sz) (hl : l.length ≤ 1099511627776) : IsSl N e (segA s) l := by
  rcases h with ⟨rfl, rfl⟩ | ⟨id, rest, k, rfl, hd⟩
  · exact IsSl.nil N e
  · have hN := hm id _ (freeze_one M id _ t k hd)
    exact ⟨fun _ => rfl, hl, fun j hj => ⟨id, 0, _, t, rfl, hN, by rw [Nat.zero_add]; exact takeX_flatMap_app hsz l rest j hj⟩⟩
theorem J.freezeRd {P : Program} {hk : FuncId → Option (List Value → Heap → AEnd)} {n : Nat} {Q : LPost} {K : List KI} {E : Env} {D : Dl} {M : Imm} {L : List Seg} {rc : RC} {α : Type} {e : El α} {s : Seg} {R : List Seg} {l : List α} {t : TypeId} (ho : RdS t e s l) (hp : Pick L s R)
    (hsz : ∀ x, (e.enc x).length = e.sz) (hl : l.length ≤ 1099511627776) (h : ∀ N, MLe M N → IsSl N e (segA s) l → J P hk n Q K E D N R rc) : J P hk n Q K E D M L rc :=
  J.freeze s hp.perm fun hle => h _ hle (isSl_rd ho (MLe.refl _) hsz hl)
theorem J.addNil {P : Program} {hk : FuncId → Option (List Value → Heap → AEnd)} {n : Nat} {Q : LPost} {K : List KI} {E : Env} {D : Dl} {M : Imm} {L : List Seg} {rc : RC} (h : J P hk n Q K E D M ([] :: L) rc) : J P hk n Q K E D M L rc := h.perm (by simp)

/- ## slices of slices -/
structure Rows (M : Imm) {α : Type} (e : El α) (a : Option Addr) (ls : List (SlOf α)) : Prop where
  out : IsSl M (eSl α) a ls
  inn : ∀ x ∈ ls, IsSl M e x.a x.l
theorem Rows.mono {M N : Imm} {α : Type} {e : El α} {a : Option Addr} {ls : List (SlOf α)} (h : Rows M e a ls) (hm : MLe M N) : Rows N e a ls := ⟨h.out.mono hm, fun x hx => (h.inn x hx).mono hm⟩
theorem Rows.at {M : Imm} {α : Type} {e : El α} {a : Option Addr} {ls : List (SlOf α)} (h : Rows M e a ls) (k : Nat) : IsSl M e (nthAt (eSl α).dflt ls k).a (nthAt (eSl α).dflt ls k).l := by
  by_cases hk : k < ls.length
  · exact h.inn _ (List.mem_of_getElem? (nthAt_lt hk))
  · have : nthAt (eSl α).dflt ls k = ⟨none, 0, []⟩ := by unfold nthAt; rw [List.getD_eq_getElem?_getD, List.getElem?_eq_none (by omega)]; rfl
    rw [this]; exact IsSl.nil M e
def rowsOf {α : Type} (ls : List (SlOf α)) : List (List α) := ls.map (·.l)
theorem rowsOf_nth {α : Type} (ls : List (SlOf α)) (k : Nat) : nthAt [] (rowsOf ls) k = (nthAt (eSl α).dflt ls k).l := by
  unfold nthAt rowsOf
  rw [List.getD_eq_getElem?_getD, List.getD_eq_getElem?_getD, List.getElem?_map]
  cases ls[k]? <;> rfl
theorem rowsOf_length {α : Type} (ls : List (SlOf α)) : (rowsOf ls).length = ls.length := by simp [rowsOf]
attribute [simp] rowsOf_length
end
end Go.Proofs.YtibeinbfhhoeiaaGreatDoor.Ab

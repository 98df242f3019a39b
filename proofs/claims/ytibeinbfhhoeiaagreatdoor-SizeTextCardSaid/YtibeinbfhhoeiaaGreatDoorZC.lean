/- SizeText in the world. Readings: slices of pairs of numbers, and slices of those, out of what a reading says. (Bulk: after the guide's UptoLemmas.) What a call leaves that returns true and writes nothing that stood: the row's word behind it. What the rows of layer 19 share: the laid tables, the witness's world. -/
import Derived.Test.YtibeinbfhhoeiaaGreatDoorZW
import Derived.Test.YtibeinbfhhoeiaaGreatDoorZJ4
import Derived.Test.YtibeinbfhhoeiaaGreatDoorRows
import Derived.Deep.SlicePairs
import Derived.Lib.LaidTab
import Derived.ReadAgain
import Derived.ProofKit
import Derived.OpenShut
import Derived.Test.YtibeinbfhhoeiaaGreatDoorCards
import Derived.Test.YtibeinbfhhoeiaaGreatDoorTie
import Derived.Deep.DeepHandedRow
import Derived.Lay
import Derived.SevenTiedAt
namespace Go.Proofs.YtibeinbfhhoeiaaGreatDoor.Ab
open Go Go.Proofs
noncomputable section

def TabW (w : World) : Prop := ∃ c t fr, w.heap[0]? = some (.cells c t fr) ∧ (Lib.pow10Tab.map (Value.int .u64)).length = c.size ∧ ∀ (j : Nat) v, (Lib.pow10Tab.map (Value.int .u64))[j]? = some v → c[j]? = some v

/-- The start: the table, and nothing else. -/
theorem start {w : World} (hT : TabW w) : ∃ σ H, Rep Tryz.prog σ H w ∧ NoOwn H ∧ TabM (immOf H) := by
  obtain ⟨c, t, fr, h1, h2, h3⟩ := hT
  have h0 := rep_empty Tryz.prog (fun i => ⟨i, 0, 0⟩) Tryz.prog.globals.size w ⟨Nat.le_refl _, fun _ _ => rfl⟩
  obtain ⟨r, n⟩ := h0.addGlob (fun id o h => by cases h) (g := 0) (by decide +kernel) h1 h2 h3 (by
    intro v hv
    obtain ⟨x, _, rfl⟩ := List.mem_map.1 hv
    rfl)
  exact ⟨_, _, r, n, t, immOf_get (Heap.get_set_same _ _ _)⟩
theorem text_calls {w : World} {a b c d e : Int} (hT : TabW w) (ha : I64 a) (hb : I64 b) (hc : I64 c) (hd : I64 d) (he : I64 e) :
    Calls Tryz.prog 5 #[.agg #[.int .i64 a, .int .i64 b, .int .i64 c, .int .i64 d, .int .i64 e]] w fun e w' => e = .returned (.bool true) ∧ w'.os = w.os ∧ w'.tape = w.tape ∧ w'.output = w.output ∧ w.heap.size ≤ w'.heap.size ∧ ∀ b, b < w.heap.size → w'.heap[b]? = w.heap[b]? := by
  obtain ⟨σ, H, r, n, ht⟩ := start hT
  have := calls_true hkAll_ok r n (args := [.agg ⟨[.int .i64 a, .int .i64 b, .int .i64 c, .int .i64 d, .int .i64 e]⟩]) (by
    intro u hu
    cases List.mem_singleton.1 hu
    exact .clo rfl) (f5_ok hkAll_u (immOf H) ht ha hb hc hd he)
  rw [show (⟨[Value.agg ⟨[.int .i64 a, .int .i64 b, .int .i64 c, .int .i64 d, .int .i64 e]⟩].map (ren σ)⟩ : Array Value) = #[.agg #[.int .i64 a, .int .i64 b, .int .i64 c, .int .i64 d, .int .i64 e]] from by
    simp [ren, renArr, renL]] at this
  exact this
end
end Go.Proofs.YtibeinbfhhoeiaaGreatDoor.Ab

namespace Go.Proofs.YtibeinbfhhoeiaaGreatDoor.Ab
open Go Go.Proofs Go.Deep Go.ChangeShapes Go.WideShapes
noncomputable section

theorem bulk_one {H : Type} (d : DataW H) : 1 ≤ Rows.uptoBulk d := by
  cases d with
  | lit l => cases l <;> simp [Rows.uptoBulk]
  | _ => simp [Rows.uptoBulk]
theorem bulk_part {H : Type} {d : DataW H} {l : List (DataW H)} (h : d ∈ l) : Rows.uptoBulk d ≤ Rows.uptoBulkAll l := by
  induction l with
  | nil => cases h
  | cons x r ih =>
    simp only [Rows.uptoBulkAll]
    rcases List.mem_cons.1 h with e | e
    · subst e; omega
    · have := ih e; omega
theorem bulk_length {H : Type} (l : List (DataW H)) : l.length ≤ Rows.uptoBulkAll l := by
  induction l with
  | nil => simp [Rows.uptoBulkAll]
  | cons x r ih => have := bulk_one x; simp only [Rows.uptoBulkAll, List.length_cons]; omega

theorem cell_some {w : World} {b o : Nat} {v : Value} (h : w.cell? ⟨b, o, none⟩ = some v) : ∃ c t fr, w.heap[b]? = some (.cells c t fr) ∧ c[o]? = some v := by
  unfold World.cell? at h
  split at h
  · rename_i c t fr hc
    exact ⟨c, t, fr, hc, by simpa using h⟩
  · cases h
theorem piece_of {w : World} {a : Addr} {n : Nat} {V : Nat → Value} (hn : 0 < n) (h : ∀ i, i < n → w.cell? (a.add i) = some (V i)) :
    ∃ blk off, a = ⟨blk, off, none⟩ ∧ PieceAt w blk off ((List.range n).map V) := by
  obtain ⟨blk, off, sp⟩ := a
  have h0 := h 0 hn
  have e0 : (⟨blk, off, sp⟩ : Addr).add 0 = ⟨blk, off, sp⟩ := by simp [Addr.add]
  rw [e0] at h0
  have hs : sp = none := by
    unfold World.cell? at h0
    split at h0
    · cases sp with
      | none => rfl
      | some s => simp at h0
    · cases h0
  subst hs
  obtain ⟨c, t, fr, hc, _⟩ := cell_some h0
  have key : ∀ i, i < n → c[off + i]? = some (V i) := by
    intro i hi
    have := h i hi
    rw [add_plain] at this
    obtain ⟨c', t', fr', hc', hv⟩ := cell_some this
    rw [hc] at hc'
    cases hc'
    exact hv
  refine ⟨blk, off, rfl, c, t, fr, hc, ?_, ?_⟩
  · have := key (n - 1) (by omega)
    have := (Array.getElem?_eq_some_iff.1 this).1
    rw [List.length_map, List.length_range]
    omega
  · intro j v hv
    have hj : j < n := by
      have := (List.getElem?_eq_some_iff.1 hv).1
      simpa using this
    rw [key j hj]
    simpa [hj] using hv

def intOf : Value → Int
  | .int _ n => n
  | _ => 0
theorem two_by_two (f g : Nat → Value) : ∀ n, (List.range (n * 2)).map (fun j => if j % 2 = 0 then f (j / 2) else g (j / 2)) = (List.range n).flatMap fun i => [f i, g i]
  | 0 => rfl
  | n + 1 => by
    rw [show (n + 1) * 2 = n * 2 + 1 + 1 by omega, List.range_succ, List.range_succ, List.range_succ, List.map_append, List.map_append, two_by_two f g n, List.flatMap_append]
    simp only [List.map_cons, List.map_nil, List.flatMap_cons, List.flatMap_nil, List.append_nil, List.append_assoc]
    have e1 : n * 2 % 2 = 0 := by omega
    have e2 : n * 2 / 2 = n := by omega
    have e3 : (n * 2 + 1) % 2 = 1 := by omega
    have e4 : (n * 2 + 1) / 2 = n := by omega
    rw [e1, e2, e3, e4]
    rfl

section
variable {H : Type} {enc : TypeId × Value → H} {P : Program} {w : World} {base : Nat} {spare : Nat → Bool} {held : Bool}
/-- A slice of pairs of numbers. -/
theorem row_of {t e : TypeId} {f0 f1 : Field} {fuel : Nat} {v : Value} {x : DataW H × List MemPlace} (ht : P.underlying t = some (.slice e)) (he : P.underlying e = some (.struct #[f0, f1]))
    (ce : P.cellsOf e = 2) (o0 : f0.offset = 0) (o1 : f1.offset = 1) (c0 : P.cellsOf f0.type = 1) (c1 : P.cellsOf f1.type = 1) (i0 : P.underlying f0.type = some (.int .i64)) (i1 : P.underlying f1.type = some (.int .i64))
    (h : DataW.trod enc P w base spare held fuel t [v] = some x) : ∃ l : List P2, SlW w eP v l ∧ l.length ≤ Rows.uptoBulk x.1 := by
  rcases open_slice_pairs ht he ce o0 o1 c0 c1 h with ⟨hv, rfl⟩ | ⟨a, len, cap, m, n, V0, V1, D0, D1, P0, P1, hv, _, hl, _, hm, rfl, hx⟩
  · cases hv
    exact ⟨[], .inl ⟨none, 0, rfl, rfl⟩, Nat.zero_le _⟩
  · cases hv
    have hlm : len ≤ m := by rw [hm]; split <;> omega
    refine ⟨(List.range len).map fun i => (intOf (V0 i), intOf (V1 i)), ?_, ?_⟩
    · by_cases hz : len = 0
      · subst hz; exact .inl ⟨_, _, rfl, rfl⟩
      · obtain ⟨blk, off, rfl, hp⟩ := piece_of (w := w) (a := a) (n := len * 2) (V := fun j => if j % 2 = 0 then V0 (j / 2) else V1 (j / 2)) (by omega) (fun j hj => by
          have := hx (j / 2) (by omega)
          by_cases hj2 : j % 2 = 0
          · simp only [hj2, if_true]
            have e : j / 2 * 2 = j := by omega
            have := this.1
            rwa [e] at this
          · simp only [hj2, if_false]
            have e : j / 2 * 2 + 1 = j := by omega
            have := this.2.1
            rwa [e] at this)
        refine .inr ⟨blk, off, cap, by rw [List.length_map, List.length_range], ?_⟩
        rw [two_by_two] at hp
        have e : ((List.range len).map fun i => (intOf (V0 i), intOf (V1 i))).flatMap eP.enc = (List.range len).flatMap fun i => [V0 i, V1 i] := by
          rw [List.flatMap_map]
          refine flatMap_congr_range fun i hi => ?_
          obtain ⟨_, _, h2, h3⟩ := hx i (by omega)
          obtain ⟨z0, e0, _⟩ := DataW.trod_int i0 h2
          obtain ⟨z1, e1, _⟩ := DataW.trod_int i1 h3
          have e0 := (List.cons.inj e0).1
          have e1 := (List.cons.inj e1).1
          rw [e0, e1]
          rfl
        rw [e]
        exact hp
    · simp only [Rows.uptoBulk, List.length_map, List.length_range]
      have := bulk_length ((List.range len).map fun i => (DataW.agg [D0 i, D1 i] : DataW H))
      simp only [List.length_map, List.length_range] at this
      omega

/-- A slice of things of one cell. -/
theorem cells_of {α : Type} {el : El α} {g : Value → α} {t e : TypeId} {fuel : Nat} {v : Value} {x : DataW H × List MemPlace} (ht : P.underlying t = some (.slice e)) (ce : P.cellsOf e = 1)
    (hg : ∀ (n : Nat) (V : Value) y, DataW.trod enc P w base spare held n e [V] = some y → el.enc (g V) = [V])
    (h : DataW.trod enc P w base spare held fuel t [v] = some x) : ∃ l : List α, SlW w el v l ∧ l.length ≤ Rows.uptoBulk x.1 := by
  rcases open_slice1 ht ce h with ⟨hv, rfl⟩ | ⟨a, len, cap, m, n, V, D, Pl, hv, _, hl, _, hm, rfl, hx⟩
  · cases hv
    exact ⟨[], .inl ⟨none, 0, rfl, rfl⟩, Nat.zero_le _⟩
  · cases hv
    have hlm : len ≤ m := by rw [hm]; split <;> omega
    refine ⟨(List.range len).map fun i => g (V i), ?_, ?_⟩
    · by_cases hz : len = 0
      · subst hz; exact .inl ⟨_, _, rfl, rfl⟩
      · obtain ⟨blk, off, rfl, hp⟩ := piece_of (w := w) (a := a) (n := len) (V := V) (by omega) (fun i hi => (hx i (by omega)).1)
        refine .inr ⟨blk, off, cap, by rw [List.length_map, List.length_range], ?_⟩
        have e : ((List.range len).map fun i => g (V i)).flatMap el.enc = (List.range len).map V := by
          rw [List.flatMap_map, ← flatMap_one V]
          exact flatMap_congr_range fun i hi => hg _ _ _ (hx i (by omega)).2
        rw [e]
        exact hp
    · simp only [Rows.uptoBulk, List.length_map, List.length_range]
      have := bulk_length ((List.range len).map D)
      simp only [List.length_map, List.length_range] at this
      omega
theorem ints_of {t e : TypeId} {fuel : Nat} {v : Value} {x : DataW H × List MemPlace} (ht : P.underlying t = some (.slice e)) (ce : P.cellsOf e = 1) (ie : P.underlying e = some (.int .i64))
    (h : DataW.trod enc P w base spare held fuel t [v] = some x) : ∃ l : List Int, SlW w eI v l ∧ l.length ≤ Rows.uptoBulk x.1 :=
  cells_of (g := intOf) ht ce (fun n V y hy => by
    obtain ⟨z, e, _⟩ := DataW.trod_int ie hy
    rw [(List.cons.inj e).1]
    rfl) h
def boolOf : Value → Bool
  | .bool b => b
  | _ => false
theorem bools_of {t e : TypeId} {fuel : Nat} {v : Value} {x : DataW H × List MemPlace} (ht : P.underlying t = some (.slice e)) (ce : P.cellsOf e = 1) (ie : P.underlying e = some .bool)
    (h : DataW.trod enc P w base spare held fuel t [v] = some x) : ∃ l : List Bool, SlW w eB v l ∧ l.length ≤ Rows.uptoBulk x.1 :=
  cells_of (g := boolOf) ht ce (fun n V y hy => by
    obtain ⟨z, e, _⟩ := DataW.trod_bool ie hy
    rw [(List.cons.inj e).1]
    rfl) h

/-- A slice of slices of pairs of numbers. -/
theorem net_of {t0 t e : TypeId} {f0 f1 : Field} {fuel : Nat} {v : Value} {x : DataW H × List MemPlace} (ht0 : P.underlying t0 = some (.slice t)) (ct : P.cellsOf t = 1) (ht : P.underlying t = some (.slice e)) (he : P.underlying e = some (.struct #[f0, f1]))
    (ce : P.cellsOf e = 2) (o0 : f0.offset = 0) (o1 : f1.offset = 1) (c0 : P.cellsOf f0.type = 1) (c1 : P.cellsOf f1.type = 1) (i0 : P.underlying f0.type = some (.int .i64)) (i1 : P.underlying f1.type = some (.int .i64))
    (h : DataW.trod enc P w base spare held fuel t0 [v] = some x) (hb : Rows.uptoBulk x.1 ≤ 1099511627776) : ∃ rows, NetW w v rows ∧ rows.length ≤ 1099511627776 := by
  rcases open_slice1 ht0 ct h with ⟨hv, rfl⟩ | ⟨a, len, cap, m, n, V, D, Pl, hv, _, hl, _, hm, rfl, hx⟩
  · cases hv
    exact ⟨[], ⟨.inl ⟨none, 0, rfl, rfl⟩, fun r hr => by cases hr⟩, Nat.zero_le _⟩
  · cases hv
    have hlm : len ≤ m := by rw [hm]; split <;> omega
    have hbulk : ∀ i, i < len → Rows.uptoBulk (D i) ≤ 1099511627776 := by
      intro i hi
      refine Nat.le_trans (Nat.le_trans (bulk_part (l := (List.range len).map D) (List.mem_map.2 ⟨i, List.mem_range.2 hi, rfl⟩)) ?_) hb
      simp only [Rows.uptoBulk]
      omega
    obtain ⟨R, hR⟩ := choose_lt (α := List P2) (n := len) (p := fun i l => SlW w eP (V i) l ∧ l.length ≤ Rows.uptoBulk (D i)) (fun i hi => row_of ht he ce o0 o1 c0 c1 i0 i1 (hx i (by omega)).2)
    refine ⟨(List.range len).map fun i => (V i, R i), ⟨?_, ?_⟩, ?_⟩
    · rw [List.length_map, List.length_range, List.map_map]
      by_cases hz : len = 0
      · subst hz; exact .inl ⟨_, _, rfl, rfl⟩
      · obtain ⟨blk, off, rfl, hp⟩ := piece_of (w := w) (a := a) (n := len) (V := V) (by omega) (fun i hi => (hx i (by omega)).1)
        exact .inr ⟨blk, off, cap, rfl, hp⟩
    · intro r hr
      obtain ⟨i, hi, rfl⟩ := List.mem_map.1 hr
      have hi := List.mem_range.1 hi
      exact ⟨(hR i hi).1, Nat.le_trans (hR i hi).2 (hbulk i hi)⟩
    · rw [List.length_map, List.length_range]
      have := bulk_length ((List.range len).map D)
      simp only [List.length_map, List.length_range] at this
      simp only [Rows.uptoBulk] at hb
      omega
end
end
end Go.Proofs.YtibeinbfhhoeiaaGreatDoor.Ab

namespace Go.Proofs.YtibeinbfhhoeiaaGreatDoor.Ab
open Go Go.Proofs Go.ChangeShapes Go.WideShapes Go.RowKit
noncomputable section
section
variable {H : Type} {enc : TypeId × Value → H} {P : Program}
theorem trodAll_stands {w w' : World} {base : Nat} {spare : Nat → Bool} {held : Bool} : ∀ {ts : List TypeId} {vs : List Value} {ds : List (DataW H)} {ps : List MemPlace},
    DataW.TrodAll enc P w base spare held ts vs ds ps → (∀ p ∈ ps, w.sameAt w' p) → DataW.TrodAll enc P w' base spare held ts vs ds ps
  | [], [], [], _, h, _ => h
  | _ :: _, _ :: _, _ :: _, _, ⟨p, q, ⟨n, h1⟩, h2, e⟩, hs =>
    ⟨p, q, ⟨n, DataW.trod_carry n _ _ _ h1 (fun x hx => hs x (by rw [e]; exact List.mem_append_left _ hx))⟩, trodAll_stands h2 (fun x hx => hs x (by rw [e]; exact List.mem_append_right _ hx)), e⟩

theorem stands_same {w w' : World} (hst : ∀ b, b < w.heap.size → w'.heap[b]? = w.heap[b]?) (p : MemPlace) (hp : p.block < w.heap.size) : w.sameAt w' p := by
  cases p with
  | cell b off => show w'.cell? _ = w.cell? _; unfold World.cell?; rw [show w'.heap[b]? = w.heap[b]? from hst b hp]
  | map b => exact hst b hp
theorem stands_kept {w w' : World} (hos : w'.os = w.os) (hout : w'.output = w.output) (hst : ∀ b, b < w.heap.size → w'.heap[b]? = w.heap[b]?) (may : MemPlace → Prop) : w.keptBut w' may := by
  refine ⟨hos, hout, fun i hi => ?_⟩
  rw [hst i hi]
  cases h : w.heap[i]? with
  | none => rfl
  | some o => cases o <;> simp

theorem post_stands {f : Func} {s : ChangeSpec} {W W' : World} {args : Array Value} {ds : List (DataW H)} {before : List MemPlace} {t : TypeId} (K : Kids P (· < P.types.size)) (hz : ∀ t e, t < P.types.size → P.underlying t = some (.slice e) → 0 < P.cellsOf e)
    (hT : ∀ t ∈ f.params.toList, t < P.types.size) (hv : s.vars = []) (hr : (s.fn H ds).results = [.lit (.bool true)]) (ha : (s.fn H ds).args = ds) (hv' : (s.fn H ds).vars = []) (hrt : f.resultTypes = #[t]) (hb : P.underlying t = some .bool)
    (hW : DataW.Whole enc P f.params.toList s.vars false W args.toList ds [] before) (hos : W'.os = W.os) (hout : W'.output = W.output) (hst : ∀ b, b < W.heap.size → W'.heap[b]? = W.heap[b]?) :
    s.post enc P f false true false false W args (.bool true) W' := by
  obtain ⟨p, q, h1, h2, e, hn, hd⟩ := hW
  have h2' := h2
  rw [hv] at h2'
  have hq : q = [] := h2'
  subst hq
  have hlt := h1.lt
  have hbp : before = p := by rw [e, List.append_nil]
  subst hbp
  refine ⟨ds, [], before, [], before, [], ⟨before, [], h1, h2, e, hn, hd⟩, ?_, ?_, ?_, stands_kept hos hout hst _, fun h => by cases h⟩
  · rw [List.append_nil, hr, hrt]
    exact trodAll_cons_mk (shut_bool hb _) trodAll_mk0
  · rw [List.append_nil, ha]
    exact trodAll_stands (DataW.TrodAll.respare K hz hT h1 (fun p hp => by simpa using hlt p hp)) (fun p hp => stands_same hst p (hlt p hp))
  · rw [List.append_nil, hv', hv]
    rfl
end
end
end Go.Proofs.YtibeinbfhhoeiaaGreatDoor.Ab

namespace Go.Proofs.YtibeinbfhhoeiaaGreatDoor.Ab
open Go Go.Proofs Go.ChangeShapes Go.WideShapes Go.ChangeAt Go.RowKit Go.Deep
noncomputable section

def laid3 : List (String × DataW Unit) := [("math/bits.deBruijn32tab", Rows.laid_math_bits_deBruijn32tab), ("math/bits.deBruijn64tab", Rows.laid_math_bits_deBruijn64tab), ("internal/strconv.uint64pow10", Rows.laid_internal_strconv_uint64pow10)]
theorem ownTryz : ownKnob Tryz.prog.godebug = none := by kernel_rfl
theorem kidsTryz : Kids Tryz.prog (· < Tryz.prog.types.size) := kids_rows (by kernel_rfl) (by kernel_rfl)
theorem fullTryz : ∀ t e, t < Tryz.prog.types.size → Tryz.prog.underlying t = some (.slice e) → 0 < Tryz.prog.cellsOf e := slices_full_of _ (by kernel_rfl)
theorem cellsOf3 : Tryz.prog.cellsOf 3 = 1 := by kernel_rfl

theorem cellsOf106 : Tryz.prog.cellsOf 106 = 1 := by kernel_rfl
theorem cellsOf177 : Tryz.prog.cellsOf 177 = 20 := by kernel_rfl
theorem global0 : (Tryz.prog.globals[0]?).map (·.type) = some 177 := by kernel_rfl
theorem tab_of {H : Type} {enc : TypeId × Value → H} {P : Program} {W : World} {name : String} {k : IntKind} {zs : List Int} {g g' : Nat} {t t' e : TypeId} {n fuel : Nat} {sp : Nat → Bool} {hl : Bool} {cs : Array Value} {p : List MemPlace}
    (hg : P.globalNamed name = some g) (hty : (P.globals[g]?).map (·.type) = some t) (ht : P.underlying t = some (.array n e)) (he : P.underlying e = some (.int k)) (hce : P.cellsOf e = 1) (hct : P.cellsOf t = n)
    (hg' : P.globalNamed name = some g') (ht' : (P.globals[g']?).map (·.type) = some t') (hvar : W.var? P name = some cs) (hd : DataW.trod enc P W 0 sp hl fuel t' cs.toList = some (Lib.tabData k zs, p)) : Lib.TabIs P W name k zs := by
  obtain rfl := Option.some.inj (hg.symm.trans hg')
  obtain rfl := Option.some.inj (hty.symm.trans ht')
  unfold Lib.TabIs
  rw [hvar, ← Lib.cells_of_tab ht he hce hct hd]

/-- What the row's list gives: the table of powers. -/
theorem pow10_laid {W : World} (h : laidMetH Tryz.prog laid3 W) : Lib.TabIs Tryz.prog W "internal/strconv.uint64pow10" .u64 Lib.pow10Tab := by
  have h : laidMet Tryz.prog laid3 W := h
  obtain ⟨ps, ⟨_, _, _, _, _, _, _, _, _, _, ⟨_, _, _, _, _, _, _, _, _, _, h3, _⟩, _⟩, hn, hc⟩ := h
  obtain ⟨g, t, cs, fuel, p, q, hg, ht, hvar, hd, _, _⟩ := h3
  exact tab_of globalNamed0 global0 Tryz.underlying177 Tryz.underlying106 cellsOf106 cellsOf177 hg ht hvar hd

theorem tabW_of {w : World} (h : Lib.TabIs Tryz.prog w "internal/strconv.uint64pow10" .u64 Lib.pow10Tab) : TabW w := by
  unfold Lib.TabIs World.var? at h
  rw [globalNamed0] at h
  simp only [Option.bind_some] at h
  split at h
  · rename_i cs t fr hc
    have h := Option.some.inj h
    refine ⟨cs, t, fr, hc, ?_, fun j v hj => ?_⟩
    · rw [h]; simp
    · rw [h]; simpa using hj
  · cases h

def laidWorld (os : Os) : World := World.laidAll Tryz.prog os laid3
theorem laid_met (os : Os) (args : Array Value) : laidMet Tryz.prog laid3 ((laidWorld os).forCall (fun _ _ => 0) ⟨#[], args, []⟩).memory := laidMet_laidAll _ (by kernel_rfl) (by kernel_rfl)
end
end Go.Proofs.YtibeinbfhhoeiaaGreatDoor.Ab

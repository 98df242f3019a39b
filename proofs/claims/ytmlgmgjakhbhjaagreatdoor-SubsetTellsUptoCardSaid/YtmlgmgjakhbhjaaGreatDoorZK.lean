/- Hooks, 3: all of them. subset.key, in the world. The hook for names, shown. -/
import Derived.Test.YtmlgmgjakhbhjaaGreatDoorZS
import Derived.Test.YtmlgmgjakhbhjaaGreatDoorZWk
import Derived.Lib.AppendIntMem
import Derived.Lib.ItoaLen
import Derived.Lib.Slices
import Derived.Lib.Hide
import Derived.Laws.IdiomStrings
import Derived.OwnWalk
import Derived.WalkKit
import Derived.BigCall
import Derived.Maps.AppendAt
import Derived.Test.YtmlgmgjakhbhjaaGreatDoorZA6
namespace Go.Proofs.YtmlgmgjakhbhjaaGreatDoor.Ab
open Go Go.Proofs
noncomputable section

def hkRest : HKT := fun g => match Nat.beq g 94 with
  | true => some hkSort
  | false => match Nat.beq g 97 with
    | true => some hkComp
    | false => match Nat.beq g 53 with
      | true => some hkKey
      | false => none
def hkAll : HKT := hookTrue 8 hkRest

theorem hkInts_n (res : Nat → List Int → Option Addr → Nat → Value) (turn : List Int → List Int) (args : List Value) (H : Heap) : EndN H.next (hkInts res turn args H) := by
  by_cases h : hkInts res turn args H = .none
  · rw [h]; trivial
  · rcases hkInts_spec h with ⟨_, e⟩ | ⟨id, l, _, _, _, e⟩
    · rw [e]; exact Nat.le_refl _
    · rw [e]; exact Nat.le_refl _
theorem hkKey_spec {args : List Value} {H : Heap} (h : hkKey args H ≠ .none) :
    (∃ p c, args = [.slice p 0 c] ∧ hkKey args H = .ret (.string (keyS [])) H) ∨
    ∃ id o c l cells t k tt kt, args = [.slice (some ⟨id, o, none⟩) l.length c] ∧ H.get id = some (.row cells t k) ∧ isDead k = false ∧ H.get 0 = some (.row tabV tt kt) ∧ isDead kt = false ∧ (cells.drop o).take l.length = intV l ∧ l.length ≤ 2000 ∧ (∀ x ∈ l, 0 ≤ x ∧ x ≤ 2000) ∧ hkKey args H = .ret (.string (keyS l)) H := by
  unfold hkKey at h ⊢
  split at h
  · exact .inl ⟨_, _, rfl, rfl⟩
  · rename_i id o m c _
    split at h
    · rename_i cells t k tab tt kt hg hg0
      split at h
      · rename_i l hi
        split at h
        · rename_i hb
          have hbb := hb
          simp only [Bool.and_eq_true, Bool.not_eq_true', List.all_eq_true, decide_eq_true_eq] at hb
          obtain ⟨⟨⟨⟨⟨b1, b2⟩, b3⟩, b4⟩, b5⟩, b6⟩ := hb
          have b3 := veqL_eq _ _ b3
          have b4 := Nat.eq_of_beq_eq_true b4
          have b5 := Nat.le_of_ble_eq_true b5
          subst b3
          subst b4
          refine .inr ⟨id, o, c, l, cells, t, k, tt, kt, rfl, hg, b1, hg0, b2, intsOf_eq hi, b5, b6, rfl⟩
        · exact absurd rfl h
      · exact absurd rfl h
    · exact absurd rfl h
  · exact absurd rfl h
theorem hkKey_n (args : List Value) (H : Heap) : EndN H.next (hkKey args H) := by
  by_cases h : hkKey args H = .none
  · rw [h]; trivial
  · rcases hkKey_spec h with ⟨_, _, _, e⟩ | ⟨_, _, _, _, _, _, _, _, _, _, _, _, _, _, _, _, _, e⟩
    · rw [e]; exact Nat.le_refl _
    · rw [e]; exact Nat.le_refl _

theorem hkAll_u : HkU hkAll where
  n := by
    intro f g args H hf
    unfold hkAll hookTrue at hf
    split at hf
    · cases hf
      cases args with
      | nil => exact Nat.le_refl _
      | cons a l => trivial
    · unfold hkRest at hf
      split at hf
      · cases hf; exact hkInts_n _ _ _ _
      · split at hf
        · cases hf; exact hkInts_n _ _ _ _
        · split at hf
          · cases hf; exact hkKey_n _ _
          · cases hf
  no := by
    intro f hf
    unfold hooked at hf
    simp only [Bool.or_eq_false_iff] at hf
    obtain ⟨⟨⟨h1, h2⟩, h3⟩, h4⟩ := hf
    unfold hkAll hookTrue
    rw [h1]
    simp only
    unfold hkRest
    rw [h2, h4, h3]
  sort := fun M s l ho hl => sort_con rfl M s l ho hl
  compact := fun M s l ho hl => comp_con rfl M s l ho hl
  key := fun M hT a c l hl hle hx => key_con rfl M hT a c l hl hle hx
theorem hkAll_w : Wakes hkAll := by
  intro M H hs
  exact ⟨0 + 1, .ret (.bool true), H, [], hook_call (show hkAll 8 = some _ from rfl) rfl, hs, Frm.refl _ _, rfl, rfl⟩

/-- What is left to show of the hook for names. -/
def KeyHook : Prop := ∀ args H, hkKey args H ≠ .none → ∀ σ w, Rep Tryz.prog σ H w → Calls Tryz.prog 53 ⟨args.map (ren σ)⟩ w (EndPost Tryz.prog σ H w (hkKey args H))
theorem hkRest_ok (hk : KeyHook) : HkOk Tryz.prog hkRest := by
  intro f g args H hf hne
  unfold hkRest at hf
  split at hf
  · rename_i hb
    have hb := Nat.eq_of_beq_eq_true hb
    subst hb
    cases hf
    exact ⟨by kernel_rfl, fun σ w hR _ => hkSort_ok hne σ w hR⟩
  · split at hf
    · rename_i hb
      have hb := Nat.eq_of_beq_eq_true hb
      subst hb
      cases hf
      exact ⟨by kernel_rfl, fun σ w hR _ => hkComp_ok hne σ w hR⟩
    · split at hf
      · rename_i hb
        have hb := Nat.eq_of_beq_eq_true hb
        subst hb
        cases hf
        exact ⟨by kernel_rfl, fun σ w hR _ => hk args H hne σ w hR⟩
      · cases hf
theorem hkAll_ok (hk : KeyHook) : HkOk Tryz.prog hkAll := hookTrue_ok (hkRest_ok hk) hkOk_none wakes_run
end
end Go.Proofs.YtmlgmgjakhbhjaaGreatDoor.Ab

namespace Go.Proofs.YtmlgmgjakhbhjaaGreatDoor.Ab
open Go Go.Proofs Go.Shelf Go.RowKit

theorem info5 : (Tryz.prog.info? 5).map (fun i => (i.zero, i.size, i.bytes)) = some (some (.int .u8 0), 1, 1) := by kernel_rfl
def idxOfV : Value → Nat
  | .int _ i => i.toNat
  | _ => 0

theorem keyL_le : ∀ (l : List Int), (∀ x ∈ l, 0 ≤ x ∧ x ≤ 2000) → (keyL l).length ≤ 22 * l.length
  | [], _ => by simp [keyL]
  | x :: l, h => by
    have h1 := keyL_le l fun y hy => h y (.tail _ hy)
    have h2 := h x (.head _)
    have h3 := Lib.itoa_length_le x (by omega) (by omega)
    have e : keyL (x :: l) = (Lib.itoa x ++ [32]) ++ keyL l := by simp [keyL]
    rw [e, List.length_append, List.length_append, List.length_cons, List.length_cons, List.length_nil]
    omega
theorem keyL_succ {l : List Int} {k : Nat} (h : k < l.length) : keyL (l.take (k + 1)) = keyL (l.take k) ++ (Lib.itoa (l.getD k 0) ++ [32]) := by
  unfold keyL
  rw [take_succ_nth (d := 0) h, List.flatMap_append]
  simp [nthAt]

set_option maxHeartbeats 6400000 in
set_option maxRecDepth 100000 in
theorem key_walk (blk off cap : Nat) (l : List Int) (w : World) (hx : ∀ x ∈ l, 0 ≤ x ∧ x ≤ 2000) (hle : l.length ≤ 2000)
    (hc : ∀ j, j < l.length → w.cell? ⟨blk, off + j, none⟩ = some (.int .i64 (l.getD j 0))) (hb : blk < w.heap.size)
    (htab : Lib.TabIs Tryz.prog w "internal/strconv.uint64pow10" .u64 Lib.pow10Tab) :
    Calls Tryz.prog 53 #[.slice (some ⟨blk, off, none⟩) l.length cap] w fun e w' => e = .returned (.string (keyS l)) ∧ Below w.heap.size w w' := by
  obtain ⟨i0, hi, hz0, hz1, hz2⟩ := info_parts info5
  have hT := Lib.tabBelow_of_tabIs htab
  go_enter Tryz.func53, Tryz.ntmps53
  go_wp2
  go_loopw [3, 8] (fun v i wr => ∃ k : Nat, i = .int .i64 (k : Int) ∧ k ≤ l.length ∧ wr.ownsRow w.heap.size 5 1 v (keyL (l.take k)).length (Lib.byteCells (keyL (l.take k))) ∧ Below w.heap.size w wr) (fun _ i _ => l.length - idxOfV i)
  case atStart => exact ⟨0, rfl, Nat.zero_le _, World.ownsRow_nil _ _ _ _, Below.refl _ _⟩
  case round =>
    obtain ⟨k, rfl, hk, hown, hnx⟩ := hrel
    have hkl := keyL_le (l.take k) fun x h => hx x (List.mem_of_mem_take h)
    rw [List.length_take] at hkl
    have hsz := hnx.size
    by_cases hlt : k < l.length
    · have hcell : wr.cell? ⟨blk, off + k, none⟩ = some (.int .i64 (l.getD k 0)) := by rw [hnx.cell hb]; exact hc k hlt
      have hmem : l.getD k 0 ∈ l := by rw [List.getD_eq_getElem?_getD, List.getElem?_eq_getElem hlt]; exact List.getElem_mem hlt
      have hxx := hx _ hmem
      have hil := Lib.itoa_length_le (l.getD k 0) (by omega) (by omega)
      have hks := keyL_succ hlt
      have hx0 : -9223372036854775808 ≤ l.getD k 0 := by omega
      have hx1 : l.getD k 0 ≤ 9223372036854775807 := by omega
      have hlim : (keyL (l.take k)).length + 21 ≤ 140737488355328 := by omega
      have hlim2 : (keyL (l.take k)).length + (Lib.itoa (l.getD k 0)).length + 1 ≤ 100000 := by omega
      have hltv : ((k : Int) < (l.length : Int)) := by omega
      have HK := Lib.hid hks
      clear hks hil hxx hmem hkl
      generalize hxv : l.getD k 0 = xk at *
      go_wp2_with (first
        | (go_at_call 95; refine (Tryz.strconv_AppendInt_10 w.heap.size _ xk hx0 hx1 u3 _ wr hown hsz hlim (hT.on hnx)).mono ?_; rintro e w1 ⟨v1, rfl, hown1, hnx1, -⟩; refine Hid.out ?_))
      refine Lib.hid ?_
      have hsz1 := hnx1.size
      go_wp2_with (at_builtin; refine wpList_append_own _ rfl _ _ 153 rfl w.heap.size 5 i0 (.int .u8 0) 1 1 Tryz.underlying153 hi hz0 hz1 hz2 rfl (by decide) _ _ _ rfl (hown1.alloc _) ⟨w1.heap.size, 0, none⟩ 1 1 [Value.int .u8 32] rfl rfl (by intro j u' hj; match j, hj with | 0, hj => simp at hj; subst hj; simp [Addr.add]) (by intro u' hu'; simp at hu'; subst hu'; rfl) (by unfold maxLen; omega) (by omega) (by simp; omega) ?_)
      intro v2 w2 hown2 hgrow _
      have hnx2 : Below w.heap.size w w2 := ((hnx.trans hnx1).alloc (by omega) _).grown hgrow (by simp; omega) (fun k hk => (hown1.lt k hk).1)
      go_wp2
      go_roundw
      case rel =>
        refine ⟨k + 1, rfl, hlt, ?_, hnx2⟩
        rw [HK.out]
        have e1 : (keyL (l.take k)).length + (Lib.itoa xk).length + 1 = (keyL (l.take k) ++ (Lib.itoa xk ++ [32])).length := by simp; omega
        have e2 : Lib.byteCells (keyL (l.take k)) ++ Lib.byteCells (Lib.itoa xk) ++ [Value.int .u8 32] = Lib.byteCells (keyL (l.take k) ++ (Lib.itoa xk ++ [32])) := by simp [Lib.byteCells]
        rw [← e1, ← e2, List.append_assoc]
        exact hown2
      case measure => simp [idxOfV]; omega
    · have hkk : l.take k = l := List.take_of_length_le (by omega)
      rw [hkk] at hown
      clear hkl
      rcases hown.2 with ⟨rfl, h0⟩ | ⟨g, cap', cur, rfl, -, -, -, -, -, -⟩
      · have hltv : ¬ ((k : Int) < (l.length : Int)) := by omega
        have hk0 : keyL l = [] := List.length_eq_zero_iff.1 h0
        have hcv : (convert 153 9 (.slice none 0 0)).run Tryz.prog wr = .ok (.string ⟨#[]⟩) wr := by
          rw [run_convert_bytes_string wr 153 9 5 none 0 0 Tryz.underlying153 Tryz.underlying5 Tryz.underlying9]
          rfl
        go_wp2
        go_ret
        exact ⟨by unfold keyS; rw [hk0]; rfl, hnx⟩
      · have hcv := run_convert_bytes_back (P := Tryz.prog) wr 153 9 5 ⟨g, 0, none⟩ cap' (keyL l) Tryz.underlying153 Tryz.underlying5 Tryz.underlying9 (fun j hj => hown.cells (g := g) rfl j _ (by simp [Lib.byteCells, hj]))
        have hltv : ¬ ((k : Int) < (l.length : Int)) := by omega
        go_wp2
        go_ret
        exact ⟨rfl, hnx⟩
end Go.Proofs.YtmlgmgjakhbhjaaGreatDoor.Ab

namespace Go.Proofs.YtmlgmgjakhbhjaaGreatDoor.Ab
open Go Go.Proofs Go.Shelf Go.RowKit
noncomputable section

set_option maxHeartbeats 1600000 in
set_option maxRecDepth 100000 in
/-- No row at all. -/
theorem key_walk0 (p : Option Addr) (cap : Nat) (w : World) : Calls Tryz.prog 53 #[.slice p 0 cap] w fun e w' => e = .returned (.string (keyS [])) ∧ Below w.heap.size w w' := by
  go_enter Tryz.func53, Tryz.ntmps53
  go_wp2
  go_loopw [3, 8] (fun v i wr => v = .slice none 0 0 ∧ i = .int .i64 0 ∧ Below w.heap.size w wr) (fun _ _ _ => 0)
  case atStart => exact ⟨rfl, rfl, Below.refl _ _⟩
  case round =>
    obtain ⟨rfl, rfl, hnx⟩ := hrel
    have hcv : (convert 153 9 (.slice none 0 0)).run Tryz.prog wr = .ok (.string ⟨#[]⟩) wr := by
      rw [run_convert_bytes_string wr 153 9 5 none 0 0 Tryz.underlying153 Tryz.underlying5 Tryz.underlying9]
      rfl
    go_wp2
    go_ret
    exact ⟨rfl, hnx⟩

theorem globalNamed0 : Tryz.prog.globalNamed "internal/strconv.uint64pow10" = some 0 := by kernel_rfl
theorem tabIs_rep {w : World} {σ : Sig} {H : Heap} (hR : Rep Tryz.prog σ H w) {tt : TypeId} {kt : Kind} (h0 : H.get 0 = some (.row tabV tt kt)) (hd : isDead kt = false) : Lib.TabIs Tryz.prog w "internal/strconv.uint64pow10" .u64 Lib.pow10Tab := by
  have h00 : (0 : Nat) < Tryz.prog.globals.size := by decide +kernel
  have hσ := hR.glob.2 0 h00
  rcases hR.obj 0 _ h0 with hk | ⟨c, fr, h1, h2, h3, _, _, h6⟩
  · subst hk; cases hd
  · rw [hσ] at h1 h2 h3
    have h6 := h6 h00
    unfold Lib.TabIs World.var?
    rw [globalNamed0]
    simp only [Option.bind_some, h1]
    congr 1
    apply Array.ext
    · rw [h6]; simp [tabV]
    · intro j hj hj'
      have hl : j < tabV.length := by rw [← h6]; exact hj
      have := h3 j _ (List.getElem?_eq_getElem hl)
      rw [ren_clo _ _ (by
        have := List.getElem_mem hl
        obtain ⟨x, _, e⟩ := List.mem_map.1 this
        rw [← e]; rfl), Nat.zero_add, Array.getElem?_eq_getElem hj] at this
      have e := Option.some.inj this
      rw [e]
      simp [tabV]

theorem below_rep {w w' : World} {σ : Sig} {H : Heap} (hR : Rep Tryz.prog σ H w) (hb : Below w.heap.size w w') : Rep Tryz.prog σ H w' ∧ Stp σ H w σ H w' :=
  ⟨hR.keep fun id o ho hl => hb.block _ ((hR.obj id o ho).lt_size hl), {
    ext := fun _ _ => rfl
    nxt := Nat.le_refl _
    os := hb.os
    tape := hb.tape
    output := hb.output
    size := hb.size
    frame := fun b hb' _ => hb.block b hb'
    foot := fun i o hi ho => .inl ⟨i, o, hi, ho, rfl⟩
    lv := fun i o hi ho => .inl ⟨i, o, hi, ho, rfl⟩ }⟩

theorem keyHook : KeyHook := by
  intro args H hne σ w hR
  rcases hkKey_spec hne with ⟨p, c, rfl, e⟩ | ⟨id, o, c, l, cells, t, k, tt, kt, rfl, hg, hd, hg0, hd0, hcells, hle, hx, e⟩
  · rw [e]
    have hren : ∃ p' c', ren σ (.slice p 0 c) = .slice p' 0 c' := by cases p <;> exact ⟨_, _, rfl⟩
    obtain ⟨p', c', hren⟩ := hren
    rw [List.map_singleton, hren]
    refine (key_walk0 p' c' w).mono fun e w' he => ?_
    obtain ⟨rfl, hb⟩ := he
    obtain ⟨r, s⟩ := below_rep hR hb
    exact ⟨σ, by rw [ren_clo _ _ rfl], r, s, .clo rfl⟩
  · rw [e]
    have htab := tabIs_rep hR hg0 hd0
    have hlt := (hR.obj id _ hg).lt_size (by cases k <;> first | rfl | cases hd)
    rcases hR.obj id _ hg with hk | ⟨ca, fr, h1, h2, h3, _⟩
    · subst hk; cases hd
    refine (key_walk (σ id).blk ((σ id).off + o) (renCap σ id c) l w hx hle ?_ hlt htab).mono fun e w' he => ?_
    · intro j hj
      have hc : cells[o + j]? = some (.int .i64 (l.getD j 0)) := by
        have h : ((cells.drop o).take l.length)[j]? = (intV l)[j]? := by rw [hcells]
        rw [List.getElem?_take_of_lt hj, List.getElem?_drop] at h
        rw [h, intV, List.getElem?_map, List.getElem?_eq_getElem hj, List.getD_eq_getElem?_getD, List.getElem?_eq_getElem hj]
        rfl
      have h4 := h3 (o + j) _ hc
      unfold World.cell?
      simp only [h1]
      rw [Nat.add_assoc, h4]
      simp [ren]
    · obtain ⟨rfl, hb⟩ := he
      obtain ⟨r, s⟩ := below_rep hR hb
      exact ⟨σ, by rw [ren_clo _ _ rfl], r, s, .clo rfl⟩
end
end Go.Proofs.YtmlgmgjakhbhjaaGreatDoor.Ab

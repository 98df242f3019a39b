/- Hooks of layer 19: wakes, from a heap that holds the table. Walks of layer 19, 1: what is asked of the hooks; a size as text. -/
import Derived.Test.YtibeinbfhhoeiaaGreatDoorZS
import Derived.Test.YtibeinbfhhoeiaaGreatDoorZWk
import Derived.Test.YtibeinbfhhoeiaaGreatDoorZJ4
namespace Go.Proofs.YtibeinbfhhoeiaaGreatDoor.Ab
open Go Go.Proofs Go.Shelf Go.RowKit
noncomputable section

theorem hkLib_ok : HkOk Tryz.prog hkLib := by
  intro f g args H hf hne
  unfold hkLib at hf
  split at hf
  · rename_i hb
    have hb := Nat.eq_of_beq_eq_true hb
    subst hb
    cases hf
    exact ⟨by kernel_rfl, fun σ w hR _ => hkItoa_ok hne σ w hR⟩
  · split at hf
    · rename_i hb
      have hb := Nat.eq_of_beq_eq_true hb
      subst hb
      cases hf
      exact ⟨by kernel_rfl, fun σ w hR _ => hkCopy_ok hne σ w hR⟩
    · split at hf
      · rename_i hb
        have hb := Nat.eq_of_beq_eq_true hb
        subst hb
        cases hf
        exact ⟨by kernel_rfl, fun σ w hR _ => hkStr_ok hne σ w hR⟩
      · cases hf
theorem tabV_clo : ∀ v ∈ tabV, clo v = true := fun v hv => by
  obtain ⟨x, _, e⟩ := List.mem_map.1 hv
  rw [← e]; rfl
theorem tabH_0 (t : TypeId) : (tabH t).get 0 = some (.row tabV t .ro) := by
  show (Tr.set Tr.lf 0 (AObj.row tabV t .ro)).get 0 = _
  exact Tr.get_set_same _ _ _
theorem tabH_ne (t : TypeId) {i : Nat} (e : ¬ i = 0) : (tabH t).get i = (Tr.lf : Tr AObj).get i := by
  show (Tr.set Tr.lf 0 (AObj.row tabV t .ro)).get i = _
  exact Tr.get_set_ne _ _ (Ne.symm e)
theorem rep_tab {σ : Sig} {H : Heap} {w : World} (hR : Rep Tryz.prog σ H w) {t : TypeId} {k : Kind} (hg : H.get 0 = some (.row tabV t k)) (hd : isDead k = false) : Rep Tryz.prog σ (tabH t) w := by
  have h00 : (0 : Nat) < Tryz.prog.globals.size := by decide +kernel
  have inv : ∀ i o, (tabH t).get i = some o → i = 0 ∧ o = .row tabV t .ro := by
    intro i o ho
    by_cases e : i = 0
    · subst e
      have : (tabH t).get 0 = some (.row tabV t .ro) := tabH_0 t
      rw [this] at ho
      exact ⟨rfl, (Option.some.inj ho).symm⟩
    · have : (tabH t).get i = (Tr.lf : Tr AObj).get i := tabH_ne t e
      rw [this] at ho
      cases ho
  refine { obj := ?_, lt := ?_, apart := ?_, stab := ?_, glob := ⟨Nat.le_refl _, hR.glob.2⟩ }
  · intro i o ho
    obtain ⟨rfl, rfl⟩ := inv i o ho
    rcases hR.obj 0 _ hg with hk | ⟨c, fr, h1, h2, h3, _, _, h6, _⟩
    · subst hk; cases hd
    · exact .inr ⟨c, fr, h1, h2, h3, fun h => absurd rfl h, (fun h => by cases h), h6, fun h => by cases h⟩
  · intro i o ho
    obtain ⟨rfl, rfl⟩ := inv i o ho
    exact h00
  · intro i j oi oj hij hi hj
    obtain ⟨rfl, _⟩ := inv i oi hi
    obtain ⟨rfl, _⟩ := inv j oj hj
    exact absurd rfl hij
  · intro i o ho
    obtain ⟨rfl, rfl⟩ := inv i o ho
    exact fun v hv => .clo (tabV_clo v hv)
theorem tab_own {t : TypeId} {i : Nat} {o : AObj} (h : (tabH t).get i = some o) : o.own = false := by
  by_cases e : i = 0
  · subst e
    have : (tabH t).get 0 = some (.row tabV t .ro) := tabH_0 t
    rw [this] at h
    cases h
    rfl
  · have : (tabH t).get i = (Tr.lf : Tr AObj).get i := tabH_ne t e
    rw [this] at h
    cases h

def hkWakes (args : List Value) (H : Heap) : AEnd := match args with
  | [] => match H.get 0 with
    | some (.row tab _ k) => match !isDead k && veqL tab tabV with
      | true => .ret (.bool true) H
      | false => .none
    | _ => .none
  | _ => .none
theorem hkWakes_ok {args : List Value} {H : Heap} (h : hkWakes args H ≠ .none) : (enters Tryz.prog 8).isSome ∧ ∀ (σ : Sig) (w : World), Rep Tryz.prog σ H w → Calls Tryz.prog 8 ⟨args.map (ren σ)⟩ w (EndPost Tryz.prog σ H w (hkWakes args H)) := by
  unfold hkWakes at h ⊢
  split at h
  · split at h
    · rename_i tab t k hg
      split at h
      · rename_i hb
        simp only [Bool.and_eq_true, Bool.not_eq_true'] at hb
        have b2 := veqL_eq _ _ hb.2
        subst b2
        obtain ⟨v, H1, hr, hv⟩ := retIs_spec (wakes_run t)
        have hv := isTrue_spec hv
        subst hv
        have hs := (run_sound hkLib_ok wakesN).call 8 [] (tabH t) (by rw [hr]; simp)
        refine ⟨hs.1, fun σ w hR => ?_⟩
        have := hs.2 σ w (rep_tab hR hg hb.1) (by simp)
        rw [hr] at this
        refine this.mono fun e w' he => ?_
        obtain ⟨σ1, rfl, _, hS, _⟩ := he
        have hk : ∀ b, b < w.heap.size → w'.heap[b]? = w.heap[b]? := fun b hb => hS.frame b hb fun i o hi ho => by rw [tab_own hi] at ho; cases ho
        refine ⟨σ, rfl, hR.keep fun id o ho hl => hk _ ((hR.obj id o ho).lt_size hl), ?_, .clo rfl⟩
        exact {
          ext := fun _ _ => rfl
          nxt := Nat.le_refl _
          os := hS.os
          tape := hS.tape
          output := hS.output
          size := hS.size
          frame := fun b hb _ => hk b hb
          foot := fun i o hi ho => .inl ⟨i, o, hi, ho, rfl⟩
          lv := fun i o hi ho => .inl ⟨i, o, hi, ho, rfl⟩ }
      · exact absurd rfl h
    · exact absurd rfl h
  · exact absurd rfl h
/-- All hooks. -/
def hkAll : FuncId → Option (List Value → Heap → AEnd) := fun g => match Nat.beq g 8 with
  | true => some hkWakes
  | false => hkLib g
theorem hkAll_ok : HkOk Tryz.prog hkAll := by
  intro f g args H hf hne
  unfold hkAll at hf
  split at hf
  · rename_i hb
    have hb := Nat.eq_of_beq_eq_true hb
    subst hb
    cases hf
    obtain ⟨h1, h2⟩ := hkWakes_ok hne
    exact ⟨h1, fun σ w hR _ => h2 σ w hR⟩
  · exact hkLib_ok f g args H hf hne
end
end Go.Proofs.YtibeinbfhhoeiaaGreatDoor.Ab

namespace Go.Proofs.YtibeinbfhhoeiaaGreatDoor.Ab
open Go Go.Proofs
noncomputable section
abbrev HKT := FuncId → Option (List Value → Heap → AEnd)
/-- The powers of ten stand (global 0). -/
def TabM (M : Imm) : Prop := ∃ t, M 0 = some (Lib.pow10Tab.map (Value.int .u64), t)
theorem TabM.mono {M N : Imm} (h : TabM M) (hm : MLe M N) : TabM N := let ⟨t, ht⟩ := h; ⟨t, hm _ _ ht⟩
/-- The functions that hooks stand for. -/
def hooked (f : Nat) : Bool := Nat.beq f 8 || Nat.beq f 26 || Nat.beq f 184 || Nat.beq f 172
def itoaS (n : Int) : ByteArray := ⟨(Lib.itoa n).toArray⟩
/-- What is asked of the hooks. -/
structure HkU (hk : HKT) : Prop where
  n : HkN hk
  no : ∀ f, hooked f = false → hk f = none
  itoa : ∀ (M : Imm), TabM M → ∀ (n : Int), -9223372036854775808 ≤ n → n ≤ 9223372036854775807 → Con Tryz.prog hk 26 [.int .i64 n] M [] (Gives (.string (itoaS n)) [])
  wakes : ∀ (M : Imm), TabM M → Con Tryz.prog hk 8 [] M [] (Gives (.bool true) [])
theorem hook_call {P : Program} {hk : HKT} {f : FuncId} {g : List Value → Heap → AEnd} (hf : hk f = some g) {k : Nat} {args : List Value} {H : Heap} {x : AEnd} (h : g args H = x) : (run P hk (k + 1)).call f args H = x := by
  show stepCall P (run P hk k) hk f args H = x
  unfold stepCall
  rw [hf]
  exact h
theorem veqL_tab : veqL tabV tabV = true := by decide +kernel
theorem hkItoa_n (args : List Value) (H : Heap) : EndN H.next (hkItoa args H) := by
  by_cases h : hkItoa args H = .none
  · rw [h]; trivial
  · obtain ⟨_, _, _, _, _, _, _, _, e⟩ := hkItoa_spec h
    rw [e]; exact Nat.le_refl _
theorem hkCopy_n (args : List Value) (H : Heap) : EndN H.next (hkCopy args H) := by
  unfold hkCopy
  split
  · split
    · split
      · exact Nat.le_refl _
      · trivial
    · split
      · exact Nat.le_refl _
      · trivial
    · trivial
  · trivial
theorem hkStr_n (args : List Value) (H : Heap) : EndN H.next (hkStr args H) := by
  unfold hkStr
  split
  · split
    · split
      · split
        · split
          · exact Nat.le_refl _
          · trivial
        · trivial
      · trivial
    · trivial
  · trivial
theorem hkWakes_n (args : List Value) (H : Heap) : EndN H.next (hkWakes args H) := by
  unfold hkWakes
  split
  · split
    · split
      · exact Nat.le_refl _
      · trivial
    · trivial
  · trivial
theorem hkAll_u : HkU hkAll where
  n := by
    intro f g args H hf
    unfold hkAll at hf
    split at hf
    · cases hf; exact hkWakes_n _ _
    · unfold hkLib at hf
      split at hf
      · cases hf; exact hkItoa_n _ _
      · split at hf
        · cases hf; exact hkCopy_n _ _
        · split at hf
          · cases hf; exact hkStr_n _ _
          · cases hf
  no := by
    intro f hf
    unfold hooked at hf
    simp only [Bool.or_eq_false_iff] at hf
    obtain ⟨⟨⟨h1, h2⟩, h3⟩, h4⟩ := hf
    unfold hkAll hkLib
    rw [h1, h2, h3, h4]
  itoa := by
    intro M hT n h0 h1 H hs
    obtain ⟨t, hT⟩ := hT
    obtain ⟨k, hd, hg⟩ := hs.imm 0 _ t hT
    have key : hkItoa [.int .i64 n] H = .ret (.string (itoaS n)) H := by
      unfold hkItoa in64
      have hb : (!isDead k && veqL (Lib.pow10Tab.map (Value.int .u64)) tabV && (decide (-9223372036854775808 ≤ n) && decide (n ≤ 9223372036854775807))) = true := by
        rw [hd, show veqL (Lib.pow10Tab.map (Value.int .u64)) tabV = true from veqL_tab, decide_eq_true h0, decide_eq_true h1]; rfl
      simp only [hg]
      rw [hb]
      simp only
      rw [itoaK_eq h0 h1]; rfl
    exact ⟨0 + 1, .ret (.string (itoaS n)), H, [], hook_call (show hkAll 26 = some hkItoa from rfl) key, hs, Frm.refl _ _, rfl, rfl⟩
  wakes := by
    intro M hT H hs
    obtain ⟨t, hT⟩ := hT
    obtain ⟨k, hd, hg⟩ := hs.imm 0 _ t hT
    have key : hkWakes [] H = .ret (.bool true) H := by
      unfold hkWakes
      have hb : (!isDead k && veqL (Lib.pow10Tab.map (Value.int .u64)) tabV) = true := by
        rw [hd, show veqL (Lib.pow10Tab.map (Value.int .u64)) tabV = true from veqL_tab]; rfl
      simp only [hg]
      rw [hb]
    exact ⟨0 + 1, .ret (.bool true), H, [], hook_call (show hkAll 8 = some hkWakes from rfl) key, hs, Frm.refl _ _, rfl, rfl⟩
end
end Go.Proofs.YtibeinbfhhoeiaaGreatDoor.Ab

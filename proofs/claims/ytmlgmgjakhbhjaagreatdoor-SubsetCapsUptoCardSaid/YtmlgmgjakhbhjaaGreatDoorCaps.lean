/- SubsetCaps: by as many states as it has an automaton is made, by one fewer it is not, by more it is the same: for every net and every number; of arguments whose reading is of bulk at most 1048576, and where the listed tables of the library hold what their initialisers lay. -/
import Derived.Test.YtmlgmgjakhbhjaaGreatDoorZC
namespace Go.Proofs.YtmlgmgjakhbhjaaGreatDoor.Ab
open Go Go.Proofs Go.ChangeShapes Go.WideShapes Go.ChangeAt Go.RowKit Go.Deep
noncomputable section

theorem resultTypes5 : Tryz.f5.resultTypes = #[4] := by kernel_rfl
set_option maxRecDepth 100000 in
theorem caps_contract (H : Type) (enc : TypeId × Value → H) (W : World) (base : Nat) (args : Array Value) (ds gs : List (DataW H)) (before : List MemPlace)
    (hval : ∀ (j : Nat) t v, Tryz.f5.params[j]? = some t → args[j]? = some v → Value.okWide Tryz.prog W .any base t v)
    (hW : DataW.Whole enc Tryz.prog Tryz.f5.params.toList Rows.subsetCapsSpec.vars false W args.toList ds gs before) (hb : Rows.uptoBulkAll (ds ++ gs) ≤ 1099511627776) (hL : laidMetH Tryz.prog laid3 W) :
    Calls Tryz.prog 5 args W fun e W' => ∃ v, e = .returned v ∧ Rows.subsetCapsSpec.post enc Tryz.prog Tryz.f5 false true false false W args v W' := by
  have hW' := hW
  obtain ⟨p, q, hA0, hV, rfl, hfz, hnd⟩ := hW
  have hA : DataW.TrodAll enc Tryz.prog W 0 (fun _ => true) true Tryz.f5.params.toList args.toList ds p := hA0
  rw [Tryz.params5] at hA hval
  obtain ⟨v0, vs0, d0, ds0, p0, q0, hargs, rfl, rfl, h0, r0⟩ := trodAll_cons hA
  obtain ⟨v1, vs1, d1, ds1, p1, q1, hargs1, rfl, rfl, h1, r1⟩ := trodAll_cons r0
  obtain ⟨rfl, rfl, rfl⟩ := trodAll_nil r1
  subst hargs1
  obtain rfl : args = #[v0, v1] := by cases args; simp_all
  obtain ⟨rfl, rfl⟩ := trodVars_none hV
  have hv1 := hval 1 5 v1 rfl rfl
  obtain ⟨more, rfl, rfl, rfl, hwf⟩ := open_int Tryz.underlying5 hv1 h1
  have hm := bounds_u8 hwf
  rw [List.append_nil] at hb
  simp only [Rows.uptoBulkAll] at hb
  obtain ⟨u, rows, rfl, hn, hl⟩ := net_arg (hval 0 24 v0 rfl rfl) h0 (Nat.le_trans (Nat.le_add_right _ _) hb)
  refine (caps_calls keyHook (tabW_of (pow10_laid hL)) hn hl hm).mono fun e W' ⟨he, hos, _, hout, _, hst⟩ => ?_
  subst he
  exact ⟨_, rfl, post_stands kidsTryz fullTryz (by rw [Tryz.params5]; decide +kernel) rfl rfl rfl rfl resultTypes5 Tryz.underlying4 hW' hos hout hst⟩

theorem reads5 (os : Os) {H : Type} (enc : TypeId × Value → H) : ∃ places, DataW.whole enc Tryz.prog ((laidWorld os).forCall (fun _ _ => 0) ⟨#[], #[.agg #[.slice none 0 0], .int .u8 0], []⟩).memory Tryz.f5.params.toList Rows.subsetCapsSpec.vars false #[Value.agg #[.slice none 0 0], .int .u8 0].toList 8 = some ([.agg [.nil], .lit (.int .u8 0)], [], places) :=
  ⟨[], by kernel_rfl⟩

set_option maxRecDepth 100000 in
theorem caps_lifted (os : Os) (started : os.Started) (H : Type) (enc : TypeId × Value → H) (F : Stop.Interp) :
    ReturnsInHanded {} Tryz.checked os 5 .any ((Rows.OpenSpec.upto Rows.subsetCapsSpec).preRow enc Tryz.prog Tryz.f5 Rows.subsetCapsUptoRow.domain false Rows.subsetCapsUptoRow.laid) (((Rows.OpenSpec.upto Rows.subsetCapsSpec).at F).post enc Tryz.prog Tryz.f5 false true false false) := by
  obtain ⟨places, hx⟩ := reads5 os enc
  refine returnsInHanded_of_row (C := Tryz.checked) (s := Rows.OpenSpec.upto Rows.subsetCapsSpec) ownTryz started (by kernel_rfl) Tryz.func5
    (witness_row_at (enc := enc) (C := Tryz.checked) false (laidWorld os) #[.agg #[.slice none 0 0], .int .u8 0] (World.laidAll_os _ _ _) (by kernel_rfl) (by kernel_rfl) (by kernel_rfl)
      (OpenSpec.preRow_of_cond 8 hx (by kernel_rfl) (fun k hk => by cases hk; kernel_rfl) (by kernel_rfl) (laid_met os _))) ?_
  intro W base args ds gs before hval hW _ hcond _ hL _ _
  exact caps_contract H enc W base args ds gs before hval hW (Nat.le_trans (of_decide_eq_true (hcond _ rfl)) (by decide)) hL

theorem caps_said : Rows.SubsetCapsUptoSaid :=
  OpenClaim.holds_of_cond 5 Tryz.f5 rfl rfl rfl rfl rfl rfl rfl ⟨rfl, rfl, rfl, rfl, rfl⟩ rfl rfl rfl rfl rfl (by kernel_rfl) Tryz.func5 (by kernel_rfl)
    (of_decide_eq_true (by kernel_rfl)) (by unfold Func.isWrapper; first | (rw [if_pos (by decide +kernel)]; kernel_rfl) | (rw [if_neg (by decide +kernel)]; exact ⟨rfl, rfl⟩))
    (fun os started H enc _ F => by rw [OpenClaim.pre_eq_preRow]; exact caps_lifted os started H enc F)

theorem caps_plain (f : FuncId) (fn : Func) (hf : Tryz.pinned.checked.prog.funcNamed "topiarist/topiaristlaw15.SubsetCaps" = some f) (hfn : Tryz.pinned.checked.prog.funcs[f]? = some fn) :
    true = Tryz.pinned.checked.prog.looks [] ∧ ∀ (j : Nat) t, fn.params[j]? = some t → Tryz.pinned.checked.prog.wantsStandIn t = false := by
  obtain rfl : f = 5 := Option.some.inj ((show Tryz.prog.funcNamed "topiarist/topiaristlaw15.SubsetCaps" = some 5 by kernel_rfl).symm.trans hf) |>.symm
  obtain rfl : fn = Tryz.f5 := (Option.some.inj (Tryz.func5.symm.trans hfn)).symm
  refine ⟨by kernel_rfl, fun j t ht => ?_⟩
  rw [Tryz.params5] at ht
  have hm : t ∈ [24, 5] := by simpa using Array.mem_of_getElem? ht
  have hall : ([24, 5].all fun u => !Tryz.prog.wantsStandIn u) = true := by kernel_rfl
  exact (show Tryz.prog.wantsStandIn t = false by simpa using List.all_eq_true.1 hall t hm)

theorem caps_card : Rows.SubsetCapsUptoCardSaid :=
  Claim7.holds_tied_plain_at .later [] _ _ _ _ caps_said (fun _ h => by cases h) (by kernel_rfl) (fun _ h => by cases h) subsetCapsUpto_row_tie rfl ⟨rfl, rfl⟩ (by kernel_rfl) rfl caps_plain (by kernel_rfl)
end
end Go.Proofs.YtmlgmgjakhbhjaaGreatDoor.Ab

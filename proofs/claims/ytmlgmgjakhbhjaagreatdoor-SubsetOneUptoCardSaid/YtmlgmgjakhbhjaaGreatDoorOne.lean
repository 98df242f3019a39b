/- SubsetOne: a net without edges by nothing, and with one edge by a label at each state, is its automaton, as its states are met: for every automaton; of arguments whose reading is of bulk at most 1048576, and where the listed tables of the library hold what their initialisers lay. -/
import Derived.Test.YtmlgmgjakhbhjaaGreatDoorZC
namespace Go.Proofs.YtmlgmgjakhbhjaaGreatDoor.Ab
open Go Go.Proofs Go.ChangeShapes Go.WideShapes Go.ChangeAt Go.RowKit Go.Deep
noncomputable section

theorem cellsOf27 : Tryz.prog.cellsOf 27 = 2 := by kernel_rfl
theorem cellsOf25 : Tryz.prog.cellsOf 25 = 1 := by kernel_rfl
theorem cellsOf4 : Tryz.prog.cellsOf 4 = 1 := by kernel_rfl
theorem two_of {cs : Array Value} (h : cs.size = 2) : ∃ u v, cs = #[u, v] := by
  obtain ⟨l⟩ := cs
  match l, h with
  | [u, v], _ => exact ⟨u, v, rfl⟩
theorem list_two {α : Type} {l : List α} {n : Nat} (h : l.length = n) (hn : n = 2) : ∃ u v, l = [u, v] := by
  subst hn
  match l, h with
  | [u, v], _ => exact ⟨u, v, rfl⟩
set_option maxRecDepth 100000 in
/-- An automaton that is an argument. -/
theorem auto_arg {H : Type} {enc : TypeId × Value → H} {W : World} {base : Nat} {v : Value} {d : DataW H} {p : List MemPlace} (hval : Value.okWide Tryz.prog W .any base 27 v) (h : DataW.Trod enc Tryz.prog W 0 (fun _ => true) true 27 v d p)
    (hb : Rows.uptoBulk d ≤ 1099511627776) : ∃ u1 u2 rows B, v = .agg #[u1, u2] ∧ NetW W u1 rows ∧ rows.length ≤ 1099511627776 ∧ SlW W eB u2 B ∧ B.length ≤ 1099511627776 := by
  obtain ⟨cs, rfl, hcs⟩ := okWide_agg Tryz.underlying27 hval
  have hcs := hcs.trans cellsOf27
  obtain ⟨fuel, hf⟩ := h
  obtain ⟨xs, n, _, hx, _, hl, hfs⟩ := DataW.trod_struct Tryz.underlying27 hf
  have h0 := hfs 0 _ rfl
  have h1 := hfs 1 _ rfl
  obtain ⟨u1, u2, rfl⟩ := two_of hcs
  have h0 : DataW.trod enc Tryz.prog W 0 (fun _ => true) true n 22 (([u1, u2] : List Value).take (Tryz.prog.cellsOf 22)) = xs[0]? := h0
  have h1 : DataW.trod enc Tryz.prog W 0 (fun _ => true) true n 25 (([u2] : List Value).take (Tryz.prog.cellsOf 25)) = xs[1]? := h1
  rw [cellsOf22] at h0
  rw [cellsOf25] at h1
  obtain ⟨x, y, rfl⟩ := list_two hl rfl
  have h0 : DataW.trod enc Tryz.prog W 0 (fun _ => true) true n 22 [u1] = some x := h0
  have h1 : DataW.trod enc Tryz.prog W 0 (fun _ => true) true n 25 [u2] = some y := h1
  have hd : d = .agg [x.1, y.1] := congrArg Prod.fst hx
  rw [hd] at hb
  simp only [Rows.uptoBulk, Rows.uptoBulkAll] at hb
  obtain ⟨rows, r1, r2⟩ := net_of Tryz.underlying22 cellsOf46 Tryz.underlying46 Tryz.underlying48 cellsOf48 rfl rfl cellsOf3 cellsOf3 Tryz.underlying3 Tryz.underlying3 h0 (Nat.le_trans (by omega) hb)
  obtain ⟨B, b1, b2⟩ := bools_of Tryz.underlying25 cellsOf4 Tryz.underlying4 h1
  exact ⟨u1, u2, rows, B, rfl, r1, r2, b1, Nat.le_trans b2 (Nat.le_trans (by omega) hb)⟩

theorem resultTypes6 : Tryz.f6.resultTypes = #[4] := by kernel_rfl
set_option maxRecDepth 100000 in
theorem one_contract (H : Type) (enc : TypeId × Value → H) (W : World) (base : Nat) (args : Array Value) (ds gs : List (DataW H)) (before : List MemPlace)
    (hval : ∀ (j : Nat) t v, Tryz.f6.params[j]? = some t → args[j]? = some v → Value.okWide Tryz.prog W .any base t v)
    (hW : DataW.Whole enc Tryz.prog Tryz.f6.params.toList Rows.subsetOneSpec.vars false W args.toList ds gs before) (hb : Rows.uptoBulkAll (ds ++ gs) ≤ 1099511627776) (hL : laidMetH Tryz.prog laid3 W) :
    Calls Tryz.prog 6 args W fun e W' => ∃ v, e = .returned v ∧ Rows.subsetOneSpec.post enc Tryz.prog Tryz.f6 false true false false W args v W' := by
  have hW' := hW
  obtain ⟨p, q, hA0, hV, rfl, hfz, hnd⟩ := hW
  have hA : DataW.TrodAll enc Tryz.prog W 0 (fun _ => true) true Tryz.f6.params.toList args.toList ds p := hA0
  rw [Tryz.params6] at hA hval
  obtain ⟨v0, vs0, d0, ds0, p0, q0, hargs, rfl, rfl, h0, r0⟩ := trodAll_cons hA
  obtain ⟨rfl, rfl, rfl⟩ := trodAll_nil r0
  obtain rfl : args = #[v0] := by cases args; simp_all
  obtain ⟨rfl, rfl⟩ := trodVars_none hV
  rw [List.append_nil] at hb
  simp only [Rows.uptoBulkAll] at hb
  obtain ⟨u1, u2, rows, B, rfl, hn, hl, hB, hlB⟩ := auto_arg (hval 0 27 v0 rfl rfl) h0 (Nat.le_trans (Nat.le_add_right _ _) hb)
  refine (one_calls keyHook (tabW_of (pow10_laid hL)) hn hl hB hlB).mono fun e W' ⟨he, hos, _, hout, _, hst⟩ => ?_
  subst he
  exact ⟨_, rfl, post_stands kidsTryz fullTryz (by rw [Tryz.params6]; decide +kernel) rfl rfl rfl rfl resultTypes6 Tryz.underlying4 hW' hos hout hst⟩

theorem reads6 (os : Os) {H : Type} (enc : TypeId × Value → H) : ∃ places, DataW.whole enc Tryz.prog ((laidWorld os).forCall (fun _ _ => 0) ⟨#[], #[.agg #[.slice none 0 0, .slice none 0 0]], []⟩).memory Tryz.f6.params.toList Rows.subsetOneSpec.vars false #[Value.agg #[.slice none 0 0, .slice none 0 0]].toList 8 = some ([.agg [.nil, .nil]], [], places) :=
  ⟨[], by kernel_rfl⟩

set_option maxRecDepth 100000 in
theorem one_lifted (os : Os) (started : os.Started) (H : Type) (enc : TypeId × Value → H) (F : Stop.Interp) :
    ReturnsInHanded {} Tryz.checked os 6 .any ((Rows.OpenSpec.upto Rows.subsetOneSpec).preRow enc Tryz.prog Tryz.f6 Rows.subsetOneUptoRow.domain false Rows.subsetOneUptoRow.laid) (((Rows.OpenSpec.upto Rows.subsetOneSpec).at F).post enc Tryz.prog Tryz.f6 false true false false) := by
  obtain ⟨places, hx⟩ := reads6 os enc
  refine returnsInHanded_of_row (C := Tryz.checked) (s := Rows.OpenSpec.upto Rows.subsetOneSpec) ownTryz started (by kernel_rfl) Tryz.func6
    (witness_row_at (enc := enc) (C := Tryz.checked) false (laidWorld os) #[.agg #[.slice none 0 0, .slice none 0 0]] (World.laidAll_os _ _ _) (by kernel_rfl) (by kernel_rfl) (by kernel_rfl)
      (OpenSpec.preRow_of_cond 8 hx (by kernel_rfl) (fun k hk => by cases hk; kernel_rfl) (by kernel_rfl) (laid_met os _))) ?_
  intro W base args ds gs before hval hW _ hcond _ hL _ _
  exact one_contract H enc W base args ds gs before hval hW (Nat.le_trans (of_decide_eq_true (hcond _ rfl)) (by decide)) hL

theorem one_said : Rows.SubsetOneUptoSaid :=
  OpenClaim.holds_of_cond 6 Tryz.f6 rfl rfl rfl rfl rfl rfl rfl ⟨rfl, rfl, rfl, rfl, rfl⟩ rfl rfl rfl rfl rfl (by kernel_rfl) Tryz.func6 (by kernel_rfl)
    (of_decide_eq_true (by kernel_rfl)) (by unfold Func.isWrapper; first | (rw [if_pos (by decide +kernel)]; kernel_rfl) | (rw [if_neg (by decide +kernel)]; exact ⟨rfl, rfl⟩))
    (fun os started H enc _ F => by rw [OpenClaim.pre_eq_preRow]; exact one_lifted os started H enc F)

theorem one_plain (f : FuncId) (fn : Func) (hf : Tryz.pinned.checked.prog.funcNamed "topiarist/topiaristlaw15.SubsetOne" = some f) (hfn : Tryz.pinned.checked.prog.funcs[f]? = some fn) :
    true = Tryz.pinned.checked.prog.looks [] ∧ ∀ (j : Nat) t, fn.params[j]? = some t → Tryz.pinned.checked.prog.wantsStandIn t = false := by
  obtain rfl : f = 6 := Option.some.inj ((show Tryz.prog.funcNamed "topiarist/topiaristlaw15.SubsetOne" = some 6 by kernel_rfl).symm.trans hf) |>.symm
  obtain rfl : fn = Tryz.f6 := (Option.some.inj (Tryz.func6.symm.trans hfn)).symm
  refine ⟨by kernel_rfl, fun j t ht => ?_⟩
  rw [Tryz.params6] at ht
  have hm : t ∈ [27] := by simpa using Array.mem_of_getElem? ht
  have hall : ([27].all fun u => !Tryz.prog.wantsStandIn u) = true := by kernel_rfl
  exact (show Tryz.prog.wantsStandIn t = false by simpa using List.all_eq_true.1 hall t hm)

theorem one_card : Rows.SubsetOneUptoCardSaid :=
  Claim7.holds_tied_plain_at .later [] _ _ _ _ one_said (fun _ h => by cases h) (by kernel_rfl) (fun _ h => by cases h) subsetOneUpto_row_tie rfl ⟨rfl, rfl⟩ (by kernel_rfl) rfl one_plain (by kernel_rfl)
end
end Go.Proofs.YtmlgmgjakhbhjaaGreatDoor.Ab

/- SubsetTells: the automaton of any net, by any cap, or that there is none; whether any automaton may be, what it takes: for every net, cap, automaton and row; of arguments whose reading is of bulk at most 1048576, and where the listed tables of the library hold what their initialisers lay. -/
import Derived.Test.YtmlgmgjakhbhjaaGreatDoorZC
namespace Go.Proofs.YtmlgmgjakhbhjaaGreatDoor.Ab
open Go Go.Proofs Go.ChangeShapes Go.WideShapes Go.ChangeAt Go.RowKit Go.Deep
noncomputable section

theorem cellsOf27 : Tryz.prog.cellsOf 27 = 2 := by kernel_rfl
theorem cellsOf25 : Tryz.prog.cellsOf 25 = 1 := by kernel_rfl
theorem cellsOf4 : Tryz.prog.cellsOf 4 = 1 := by kernel_rfl
theorem two_of {cs : Array Value} (h : cs.size = 2) : ∃ u v, cs = #[u, v] := by
  obtain ⟨l⟩ := cs
  match l, h with
  | [u, v], _ => exact ⟨u, v, rfl⟩
theorem list_two {α : Type} {l : List α} {n : Nat} (h : l.length = n) (hn : n = 2) : ∃ u v, l = [u, v] := by
  subst hn
  match l, h with
  | [u, v], _ => exact ⟨u, v, rfl⟩
theorem four_of {cs : Array Value} (h : cs.size = 4) : ∃ s t u v, cs = #[s, t, u, v] := by
  obtain ⟨l⟩ := cs
  match l, h with
  | [s, t, u, v], _ => exact ⟨s, t, u, v, rfl⟩
theorem list_three {α : Type} {l : List α} {n : Nat} (h : l.length = n) (hn : n = 3) : ∃ u v w, l = [u, v, w] := by
  subst hn
  match l, h with
  | [u, v, w], _ => exact ⟨u, v, w, rfl⟩
theorem cellsOf30 : Tryz.prog.cellsOf 30 = 4 := by kernel_rfl
theorem cellsOf28 : Tryz.prog.cellsOf 28 = 1 := by kernel_rfl
set_option maxRecDepth 100000 in
/-- An automaton's cells. -/
theorem auto_cells {H : Type} {enc : TypeId × Value → H} {W : World} {u1 u2 : Value} {z : DataW H × List MemPlace} {fuel : Nat} (hf : DataW.trod enc Tryz.prog W 0 (fun _ => true) true fuel 27 [u1, u2] = some z)
    (hb : Rows.uptoBulk z.1 ≤ 1099511627776) : ∃ rows B, NetW W u1 rows ∧ rows.length ≤ 1099511627776 ∧ SlW W eB u2 B ∧ B.length ≤ 1099511627776 := by
  obtain ⟨xs, n, _, hx, _, hl, hfs⟩ := DataW.trod_struct Tryz.underlying27 hf
  have h0 := hfs 0 _ rfl
  have h1 := hfs 1 _ rfl
  have h0 : DataW.trod enc Tryz.prog W 0 (fun _ => true) true n 22 (([u1, u2] : List Value).take (Tryz.prog.cellsOf 22)) = xs[0]? := h0
  have h1 : DataW.trod enc Tryz.prog W 0 (fun _ => true) true n 25 (([u2] : List Value).take (Tryz.prog.cellsOf 25)) = xs[1]? := h1
  rw [cellsOf22] at h0
  rw [cellsOf25] at h1
  obtain ⟨x, y, rfl⟩ := list_two hl rfl
  have h0 : DataW.trod enc Tryz.prog W 0 (fun _ => true) true n 22 [u1] = some x := h0
  have h1 : DataW.trod enc Tryz.prog W 0 (fun _ => true) true n 25 [u2] = some y := h1
  have hd : z.1 = .agg [x.1, y.1] := congrArg Prod.fst hx
  rw [hd] at hb
  simp only [Rows.uptoBulk, Rows.uptoBulkAll] at hb
  obtain ⟨rows, r1, r2⟩ := net_of Tryz.underlying22 cellsOf46 Tryz.underlying46 Tryz.underlying48 cellsOf48 rfl rfl cellsOf3 cellsOf3 Tryz.underlying3 Tryz.underlying3 h0 (Nat.le_trans (by omega) hb)
  obtain ⟨B, b1, b2⟩ := bools_of Tryz.underlying25 cellsOf4 Tryz.underlying4 h1
  exact ⟨rows, B, r1, r2, b1, Nat.le_trans b2 (Nat.le_trans (by omega) hb)⟩
set_option maxRecDepth 100000 in
/-- What is asked, that is an argument. -/
theorem asked_arg {H : Type} {enc : TypeId × Value → H} {W : World} {base : Nat} {v : Value} {d : DataW H} {p : List MemPlace} (hval : Value.okWide Tryz.prog W .any base 30 v) (h : DataW.Trod enc Tryz.prog W 0 (fun _ => true) true 30 v d p)
    (hb : Rows.uptoBulk d ≤ 1099511627776) : ∃ most u1 u2 u3 rows B row, v = .agg #[.int .i64 most, u1, u2, u3] ∧ NetW W u1 rows ∧ rows.length ≤ 1099511627776 ∧ SlW W eB u2 B ∧ B.length ≤ 1099511627776 ∧ SlW W eI u3 row ∧ row.length ≤ 1099511627776 := by
  obtain ⟨cs, rfl, hcs⟩ := okWide_agg Tryz.underlying30 hval
  have hcs := hcs.trans cellsOf30
  obtain ⟨fuel, hf⟩ := h
  obtain ⟨xs, n, _, hx, _, hl, hfs⟩ := DataW.trod_struct Tryz.underlying30 hf
  have h0 := hfs 0 _ rfl
  have h1 := hfs 1 _ rfl
  have h2 := hfs 2 _ rfl
  obtain ⟨u0, u1, u2, u3, rfl⟩ := four_of hcs
  have h0 : DataW.trod enc Tryz.prog W 0 (fun _ => true) true n 3 (([u0, u1, u2, u3] : List Value).take (Tryz.prog.cellsOf 3)) = xs[0]? := h0
  have h1 : DataW.trod enc Tryz.prog W 0 (fun _ => true) true n 27 (([u1, u2, u3] : List Value).take (Tryz.prog.cellsOf 27)) = xs[1]? := h1
  have h2 : DataW.trod enc Tryz.prog W 0 (fun _ => true) true n 28 (([u3] : List Value).take (Tryz.prog.cellsOf 28)) = xs[2]? := h2
  rw [cellsOf3] at h0
  rw [cellsOf27] at h1
  rw [cellsOf28] at h2
  obtain ⟨x, y, z, rfl⟩ := list_three hl rfl
  have h0 : DataW.trod enc Tryz.prog W 0 (fun _ => true) true n 3 [u0] = some x := h0
  have h1 : DataW.trod enc Tryz.prog W 0 (fun _ => true) true n 27 [u1, u2] = some y := h1
  have h2 : DataW.trod enc Tryz.prog W 0 (fun _ => true) true n 28 [u3] = some z := h2
  have hd : d = .agg [x.1, y.1, z.1] := congrArg Prod.fst hx
  rw [hd] at hb
  simp only [Rows.uptoBulk, Rows.uptoBulkAll] at hb
  obtain ⟨rows, B, r1, r2, b1, b2⟩ := auto_cells h1 (Nat.le_trans (by omega) hb)
  obtain ⟨row, w1, w2⟩ := ints_of Tryz.underlying28 cellsOf3 Tryz.underlying3 h2
  obtain ⟨m, e0, _⟩ := DataW.trod_int Tryz.underlying3 h0
  have e0 := (List.cons.inj e0).1
  subst e0
  exact ⟨m, u1, u2, u3, rows, B, row, rfl, r1, r2, b1, b2, w1, Nat.le_trans w2 (Nat.le_trans (by omega) hb)⟩

theorem resultTypes3 : Tryz.f3.resultTypes = #[4] := by kernel_rfl
set_option maxRecDepth 100000 in
theorem tells_contract (H : Type) (enc : TypeId × Value → H) (W : World) (base : Nat) (args : Array Value) (ds gs : List (DataW H)) (before : List MemPlace)
    (hval : ∀ (j : Nat) t v, Tryz.f3.params[j]? = some t → args[j]? = some v → Value.okWide Tryz.prog W .any base t v)
    (hW : DataW.Whole enc Tryz.prog Tryz.f3.params.toList Rows.subsetTellsSpec.vars false W args.toList ds gs before) (hb : Rows.uptoBulkAll (ds ++ gs) ≤ 1099511627776) (hL : laidMetH Tryz.prog laid3 W) :
    Calls Tryz.prog 3 args W fun e W' => ∃ v, e = .returned v ∧ Rows.subsetTellsSpec.post enc Tryz.prog Tryz.f3 false true false false W args v W' := by
  have hW' := hW
  obtain ⟨p, q, hA0, hV, rfl, hfz, hnd⟩ := hW
  have hA : DataW.TrodAll enc Tryz.prog W 0 (fun _ => true) true Tryz.f3.params.toList args.toList ds p := hA0
  rw [Tryz.params3] at hA hval
  obtain ⟨v0, vs0, d0, ds0, p0, q0, hargs, rfl, rfl, h0, r0⟩ := trodAll_cons hA
  obtain ⟨v1, vs1, d1, ds1, p1, q1, hargs1, rfl, rfl, h1, r1⟩ := trodAll_cons r0
  obtain ⟨rfl, rfl, rfl⟩ := trodAll_nil r1
  subst hargs1
  obtain rfl : args = #[v0, v1] := by cases args; simp_all
  obtain ⟨rfl, rfl⟩ := trodVars_none hV
  rw [List.append_nil] at hb
  simp only [Rows.uptoBulkAll] at hb
  obtain ⟨u, rows, rfl, hn, hl⟩ := net_arg (hval 0 24 v0 rfl rfl) h0 (Nat.le_trans (Nat.le_add_right _ _) hb)
  obtain ⟨most, u1, u2, u3, rows2, B, row, rfl, hn2, hl2, hB, hlB, hrow, hlr⟩ := asked_arg (hval 1 30 v1 rfl rfl) h1 (Nat.le_trans (Nat.le_trans (Nat.le_add_right _ _) (Nat.le_add_left _ _)) hb)
  refine (tells_calls keyHook (tabW_of (pow10_laid hL)) hn hl hn2 hl2 hB hlB hrow hlr).mono fun e W' ⟨he, hos, _, hout, _, hst⟩ => ?_
  subst he
  exact ⟨_, rfl, post_stands kidsTryz fullTryz (by rw [Tryz.params3]; decide +kernel) rfl rfl rfl rfl resultTypes3 Tryz.underlying4 hW' hos hout hst⟩

theorem reads3 (os : Os) {H : Type} (enc : TypeId × Value → H) : ∃ places, DataW.whole enc Tryz.prog ((laidWorld os).forCall (fun _ _ => 0) ⟨#[], #[.agg #[.slice none 0 0], .agg #[.int .i64 0, .slice none 0 0, .slice none 0 0, .slice none 0 0]], []⟩).memory Tryz.f3.params.toList Rows.subsetTellsSpec.vars false #[Value.agg #[.slice none 0 0], .agg #[.int .i64 0, .slice none 0 0, .slice none 0 0, .slice none 0 0]].toList 8 = some ([.agg [.nil], .agg [.lit (.int .i64 0), .agg [.nil, .nil], .nil]], [], places) :=
  ⟨[], by kernel_rfl⟩

set_option maxRecDepth 100000 in
theorem tells_lifted (os : Os) (started : os.Started) (H : Type) (enc : TypeId × Value → H) (F : Stop.Interp) :
    ReturnsInHanded {} Tryz.checked os 3 .any ((Rows.OpenSpec.upto Rows.subsetTellsSpec).preRow enc Tryz.prog Tryz.f3 Rows.subsetTellsUptoRow.domain false Rows.subsetTellsUptoRow.laid) (((Rows.OpenSpec.upto Rows.subsetTellsSpec).at F).post enc Tryz.prog Tryz.f3 false true false false) := by
  obtain ⟨places, hx⟩ := reads3 os enc
  refine returnsInHanded_of_row (C := Tryz.checked) (s := Rows.OpenSpec.upto Rows.subsetTellsSpec) ownTryz started (by kernel_rfl) Tryz.func3
    (witness_row_at (enc := enc) (C := Tryz.checked) false (laidWorld os) #[.agg #[.slice none 0 0], .agg #[.int .i64 0, .slice none 0 0, .slice none 0 0, .slice none 0 0]] (World.laidAll_os _ _ _) (by kernel_rfl) (by kernel_rfl) (by kernel_rfl)
      (OpenSpec.preRow_of_cond 8 hx (by kernel_rfl) (fun k hk => by cases hk; kernel_rfl) (by kernel_rfl) (laid_met os _))) ?_
  intro W base args ds gs before hval hW _ hcond _ hL _ _
  exact tells_contract H enc W base args ds gs before hval hW (Nat.le_trans (of_decide_eq_true (hcond _ rfl)) (by decide)) hL

theorem tells_said : Rows.SubsetTellsUptoSaid :=
  OpenClaim.holds_of_cond 3 Tryz.f3 rfl rfl rfl rfl rfl rfl rfl ⟨rfl, rfl, rfl, rfl, rfl⟩ rfl rfl rfl rfl rfl (by kernel_rfl) Tryz.func3 (by kernel_rfl)
    (of_decide_eq_true (by kernel_rfl)) (by unfold Func.isWrapper; first | (rw [if_pos (by decide +kernel)]; kernel_rfl) | (rw [if_neg (by decide +kernel)]; exact ⟨rfl, rfl⟩))
    (fun os started H enc _ F => by rw [OpenClaim.pre_eq_preRow]; exact tells_lifted os started H enc F)

theorem tells_plain (f : FuncId) (fn : Func) (hf : Tryz.pinned.checked.prog.funcNamed "topiarist/topiaristlaw15.SubsetTells" = some f) (hfn : Tryz.pinned.checked.prog.funcs[f]? = some fn) :
    true = Tryz.pinned.checked.prog.looks [] ∧ ∀ (j : Nat) t, fn.params[j]? = some t → Tryz.pinned.checked.prog.wantsStandIn t = false := by
  obtain rfl : f = 3 := Option.some.inj ((show Tryz.prog.funcNamed "topiarist/topiaristlaw15.SubsetTells" = some 3 by kernel_rfl).symm.trans hf) |>.symm
  obtain rfl : fn = Tryz.f3 := (Option.some.inj (Tryz.func3.symm.trans hfn)).symm
  refine ⟨by kernel_rfl, fun j t ht => ?_⟩
  rw [Tryz.params3] at ht
  have hm : t ∈ [24, 30] := by simpa using Array.mem_of_getElem? ht
  have hall : ([24, 30].all fun u => !Tryz.prog.wantsStandIn u) = true := by kernel_rfl
  exact (show Tryz.prog.wantsStandIn t = false by simpa using List.all_eq_true.1 hall t hm)

theorem tells_card : Rows.SubsetTellsUptoCardSaid :=
  Claim7.holds_tied_plain_at .later [] _ _ _ _ tells_said (fun _ h => by cases h) (by kernel_rfl) (fun _ h => by cases h) subsetTellsUpto_row_tie rfl ⟨rfl, rfl⟩ (by kernel_rfl) rfl tells_plain (by kernel_rfl)
end
end Go.Proofs.YtmlgmgjakhbhjaaGreatDoor.Ab

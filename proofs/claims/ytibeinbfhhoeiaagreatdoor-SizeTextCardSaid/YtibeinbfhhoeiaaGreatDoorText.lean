/- SizeText: a size's text has its five numbers, in order, each as it is written, apart by what stands between: for every five numbers; where the listed tables of the library hold what their initialisers lay. -/
import Derived.Test.YtibeinbfhhoeiaaGreatDoorZC
namespace Go.Proofs.YtibeinbfhhoeiaaGreatDoor.Ab
open Go Go.Proofs Go.ChangeShapes Go.WideShapes Go.ChangeAt Go.RowKit Go.Deep
noncomputable section

theorem cellsOf34 : Tryz.prog.cellsOf 34 = 5 := by kernel_rfl
theorem five_of {cs : Array Value} (h : cs.size = 5) : ∃ a b c d e, cs = #[a, b, c, d, e] := by
  obtain ⟨l⟩ := cs
  match l, h with
  | [a, b, c, d, e], _ => exact ⟨a, b, c, d, e, rfl⟩
theorem list_five {α : Type} {l : List α} {n : Nat} (h : l.length = n) (hn : n = 5) : ∃ a b c d e, l = [a, b, c, d, e] := by
  subst hn
  match l, h with
  | [a, b, c, d, e], _ => exact ⟨a, b, c, d, e, rfl⟩
theorem okWide_agg {P : Program} {w : World} {r : _root_.Go.Reach} {base : Nat} {t : TypeId} {fs : Array Field} {v : Value} (ht : P.underlying t = some (.struct fs)) (h : Value.okWide P w r base t v) : ∃ cs, v = .agg cs ∧ cs.size = P.cellsOf t := by
  unfold Value.okWide at h
  rw [ht] at h
  obtain ⟨cs, h1, h2, _⟩ := h
  exact ⟨cs, h1, h2⟩
set_option maxRecDepth 100000 in
/-- A size that is an argument. -/
theorem size_arg {H : Type} {enc : TypeId × Value → H} {W : World} {base : Nat} {v : Value} {d : DataW H} {p : List MemPlace} (hval : Value.okWide Tryz.prog W .any base 34 v) (h : DataW.Trod enc Tryz.prog W 0 (fun _ => true) true 34 v d p) :
    ∃ a b c d e, v = .agg #[.int .i64 a, .int .i64 b, .int .i64 c, .int .i64 d, .int .i64 e] ∧ I64 a ∧ I64 b ∧ I64 c ∧ I64 d ∧ I64 e := by
  obtain ⟨cs, rfl, hcs⟩ := okWide_agg Tryz.underlying34 hval
  have hcs := hcs.trans cellsOf34
  obtain ⟨fuel, hf⟩ := h
  obtain ⟨xs, n, _, hx, _, hl, hfs⟩ := DataW.trod_struct Tryz.underlying34 hf
  have h0 := hfs 0 _ rfl
  have h1 := hfs 1 _ rfl
  have h2 := hfs 2 _ rfl
  have h3 := hfs 3 _ rfl
  have h4 := hfs 4 _ rfl
  obtain ⟨u0, u1, u2, u3, u4, rfl⟩ := five_of hcs
  have h0 : DataW.trod enc Tryz.prog W 0 (fun _ => true) true n 3 (([u0, u1, u2, u3, u4] : List Value).take (Tryz.prog.cellsOf 3)) = xs[0]? := h0
  have h1 : DataW.trod enc Tryz.prog W 0 (fun _ => true) true n 3 (([u1, u2, u3, u4] : List Value).take (Tryz.prog.cellsOf 3)) = xs[1]? := h1
  have h2 : DataW.trod enc Tryz.prog W 0 (fun _ => true) true n 3 (([u2, u3, u4] : List Value).take (Tryz.prog.cellsOf 3)) = xs[2]? := h2
  have h3 : DataW.trod enc Tryz.prog W 0 (fun _ => true) true n 3 (([u3, u4] : List Value).take (Tryz.prog.cellsOf 3)) = xs[3]? := h3
  have h4 : DataW.trod enc Tryz.prog W 0 (fun _ => true) true n 3 (([u4] : List Value).take (Tryz.prog.cellsOf 3)) = xs[4]? := h4
  rw [cellsOf3] at h0 h1 h2 h3 h4
  obtain ⟨x0, x1, x2, x3, x4, rfl⟩ := list_five hl rfl
  have one : ∀ {u : Value} {x : DataW H × List MemPlace}, DataW.trod enc Tryz.prog W 0 (fun _ => true) true n 3 [u] = some x → ∃ z, u = .int .i64 z ∧ I64 z := by
    intro u x h
    obtain ⟨z, e, _, hw⟩ := DataW.trod_int Tryz.underlying3 h
    exact ⟨z, (List.cons.inj e).1, bounds_i64 hw⟩
  obtain ⟨a, rfl, ha⟩ := one (u := u0) (x := x0) h0
  obtain ⟨b, rfl, hb⟩ := one (u := u1) (x := x1) h1
  obtain ⟨c, rfl, hc⟩ := one (u := u2) (x := x2) h2
  obtain ⟨d, rfl, hd⟩ := one (u := u3) (x := x3) h3
  obtain ⟨e, rfl, he⟩ := one (u := u4) (x := x4) h4
  exact ⟨a, b, c, d, e, rfl, ha, hb, hc, hd, he⟩

theorem resultTypes5 : Tryz.f5.resultTypes = #[4] := by kernel_rfl
set_option maxRecDepth 100000 in
theorem text_contract (H : Type) (enc : TypeId × Value → H) (W : World) (base : Nat) (args : Array Value) (ds gs : List (DataW H)) (before : List MemPlace)
    (hval : ∀ (j : Nat) t v, Tryz.f5.params[j]? = some t → args[j]? = some v → Value.okWide Tryz.prog W .any base t v)
    (hW : DataW.Whole enc Tryz.prog Tryz.f5.params.toList Rows.sizeTextSpec.vars false W args.toList ds gs before) (hL : laidMetH Tryz.prog laid3 W) :
    Calls Tryz.prog 5 args W fun e W' => ∃ v, e = .returned v ∧ Rows.sizeTextSpec.post enc Tryz.prog Tryz.f5 false true false false W args v W' := by
  have hW' := hW
  obtain ⟨p, q, hA0, hV, rfl, hfz, hnd⟩ := hW
  have hA : DataW.TrodAll enc Tryz.prog W 0 (fun _ => true) true Tryz.f5.params.toList args.toList ds p := hA0
  rw [Tryz.params5] at hA hval
  obtain ⟨v0, vs0, d0, ds0, p0, q0, hargs, rfl, rfl, h0, r0⟩ := trodAll_cons hA
  obtain ⟨rfl, rfl, rfl⟩ := trodAll_nil r0
  obtain rfl : args = #[v0] := by cases args; simp_all
  obtain ⟨rfl, rfl⟩ := trodVars_none hV
  obtain ⟨a, b, c, d, e, rfl, ha, hb, hc, hd, he⟩ := size_arg (hval 0 34 v0 rfl rfl) h0
  refine (text_calls (tabW_of (pow10_laid hL)) ha hb hc hd he).mono fun e W' ⟨he, hos, _, hout, _, hst⟩ => ?_
  subst he
  exact ⟨_, rfl, post_stands kidsTryz fullTryz (by rw [Tryz.params5]; decide +kernel) rfl rfl rfl rfl resultTypes5 Tryz.underlying4 hW' hos hout hst⟩

theorem reads5 (os : Os) {H : Type} (enc : TypeId × Value → H) : ∃ places, DataW.whole enc Tryz.prog ((laidWorld os).forCall (fun _ _ => 0) ⟨#[], #[.agg #[.int .i64 0, .int .i64 0, .int .i64 0, .int .i64 0, .int .i64 0]], []⟩).memory Tryz.f5.params.toList Rows.sizeTextSpec.vars false #[Value.agg #[.int .i64 0, .int .i64 0, .int .i64 0, .int .i64 0, .int .i64 0]].toList 8 = some ([.agg [.lit (.int .i64 0), .lit (.int .i64 0), .lit (.int .i64 0), .lit (.int .i64 0), .lit (.int .i64 0)]], [], places) :=
  ⟨[], by kernel_rfl⟩

set_option maxRecDepth 100000 in
theorem text_lifted (os : Os) (started : os.Started) (H : Type) (enc : TypeId × Value → H) (F : Stop.Interp) :
    ReturnsInHanded {} Tryz.checked os 5 .any ((OpenSpec.ofChange Rows.sizeTextSpec).preRow enc Tryz.prog Tryz.f5 Rows.sizeTextRow.domain false Rows.sizeTextRow.laid) (((OpenSpec.ofChange Rows.sizeTextSpec).at F).post enc Tryz.prog Tryz.f5 false true false false) := by
  obtain ⟨places, hx⟩ := reads5 os enc
  refine returnsInHanded_of_row (C := Tryz.checked) (s := OpenSpec.ofChange Rows.sizeTextSpec) ownTryz started (by kernel_rfl) Tryz.func5
    (witness_row_at (enc := enc) (C := Tryz.checked) false (laidWorld os) #[.agg #[.int .i64 0, .int .i64 0, .int .i64 0, .int .i64 0, .int .i64 0]] (World.laidAll_os _ _ _) (by kernel_rfl) (by kernel_rfl) (by kernel_rfl)
      (OpenSpec.preRow_of_cond 8 hx (by kernel_rfl) (fun k hk => by cases hk) (by kernel_rfl) (laid_met os _))) ?_
  intro W base args ds gs before hval hW _ _ _ hL _ _
  exact text_contract H enc W base args ds gs before hval hW hL

theorem text_said : Rows.SizeTextSaid :=
  OpenClaim.holds_of_cond 5 Tryz.f5 rfl rfl rfl rfl rfl rfl rfl ⟨rfl, rfl, rfl, rfl, rfl⟩ rfl rfl rfl rfl rfl (by kernel_rfl) Tryz.func5 (by kernel_rfl)
    (of_decide_eq_true (by kernel_rfl)) (by unfold Func.isWrapper; first | (rw [if_pos (by decide +kernel)]; kernel_rfl) | (rw [if_neg (by decide +kernel)]; exact ⟨rfl, rfl⟩))
    (fun os started H enc _ F => by rw [OpenClaim.pre_eq_preRow]; exact text_lifted os started H enc F)

theorem text_plain (f : FuncId) (fn : Func) (hf : Tryz.pinned.checked.prog.funcNamed "topiarist/topiaristlaw19.SizeText" = some f) (hfn : Tryz.pinned.checked.prog.funcs[f]? = some fn) :
    true = Tryz.pinned.checked.prog.looks [] ∧ ∀ (j : Nat) t, fn.params[j]? = some t → Tryz.pinned.checked.prog.wantsStandIn t = false := by
  obtain rfl : f = 5 := Option.some.inj ((show Tryz.prog.funcNamed "topiarist/topiaristlaw19.SizeText" = some 5 by kernel_rfl).symm.trans hf) |>.symm
  obtain rfl : fn = Tryz.f5 := (Option.some.inj (Tryz.func5.symm.trans hfn)).symm
  refine ⟨by kernel_rfl, fun j t ht => ?_⟩
  rw [Tryz.params5] at ht
  have hm : t ∈ [34] := by simpa using Array.mem_of_getElem? ht
  have hall : ([34].all fun u => !Tryz.prog.wantsStandIn u) = true := by kernel_rfl
  exact (show Tryz.prog.wantsStandIn t = false by simpa using List.all_eq_true.1 hall t hm)

theorem text_card : Rows.SizeTextCardSaid :=
  Claim7.holds_tied_plain_at .later [] _ _ _ _ text_said (fun _ h => by cases h) (by kernel_rfl) (fun _ h => by cases h) sizeText_row_tie rfl ⟨rfl, rfl⟩ (by kernel_rfl) rfl text_plain (by kernel_rfl)
end
end Go.Proofs.YtibeinbfhhoeiaaGreatDoor.Ab

/-
  PROVED: the row FormulaLifts and its card: for every input the law returns true, and each argument reads behind the call as it read before. Condition: the table of arities holds when the call begins what the program's text lays (the card ties it).
-/
import Derived.Test.YtgilcibfknafiaaGreatDoorQG0P4
import Derived.Test.YtgilcibfknafiaaGreatDoorZgAnI
import Derived.Test.YtgilcibfknafiaaGreatDoorQG0J
import Derived.Test.YtgilcibfknafiaaGreatDoorAnR
import Derived.Test.YtgilcibfknafiaaGreatDoorCards
import Derived.Test.YtgilcibfknafiaaGreatDoorTie
set_option linter.unusedVariables false
set_option linter.unusedSimpArgs false
set_option maxRecDepth 100000
set_option maxHeartbeats 4000000
namespace Go.Proofs.YtgilcibfknafiaaGreatDoor
open Go Go.AM Go.ChangeShapes Go.WideShapes Go.ChangeAt Go.RowKit
theorem own : ownKnob Tryz.prog.godebug = none := by kernel_rfl
theorem laidOut : laidOutB Tryz.prog = true := by kernel_rfl
theorem arN : Tryz.prog.globalNamed "proofprograms/tree.arities" = some 1 := by kernel_rfl
theorem arT : (Tryz.prog.globals[1]?).map (·.type) = some 258 := by kernel_rfl
theorem und_22 : Tryz.prog.underlying 22 = some (.slice 3) := by kernel_rfl
theorem und_3 : Tryz.prog.underlying 3 = some (.int .i64) := by kernel_rfl
theorem und_4 : Tryz.prog.underlying 4 = some (.bool) := by kernel_rfl
theorem und_258 : Tryz.prog.underlying 258 = some (.array 14 3) := by kernel_rfl
theorem cells_int : Tryz.prog.cellsOf 3 = 1 := by kernel_rfl
theorem cells_arr : Tryz.prog.cellsOf 258 = 14 := by kernel_rfl
/-- From what is laid to what the walk reads. -/
theorem gok_of_laid {W : World} (h : laidMet Tryz.prog Rows.formulaLiftsRow.laid W) : GOk GL (allOf W) := by
  obtain ⟨ps, ⟨g, t, cs, fuel, p, q, hg, ht, hvar, hd, _, _⟩, _⟩ := h
  obtain rfl := Option.some.inj (arN.symm.trans hg)
  obtain rfl := Option.some.inj (arT.symm.trans ht)
  have hcs : cs.toList = arInts.map fun i => .int .i64 i := arr_ints (ns := arInts) und_258 und_3 cells_int cells_arr rfl hd
  intro g cs' hl
  unfold GL at hl
  rw [look_cons] at hl
  split at hl
  · rename_i e; subst e; injection hl with hl; subst hl
    refine row_of_cells (vs := arInts.map fun i => .int .i64 i) (fun j v hv => ?_) (by simp [arInts, RepVs, RepV, RepD])
    show W.cell? ⟨1, j, none⟩ = some v
    rw [World.var?_cell hg hvar j, ← hv, ← hcs, Array.getElem?_toList]
  · cases hl
/-- The settled world, but the variable is laid. -/
noncomputable def laidWorld (os : Os) : World :=
  let w0 := World.holding Tryz.prog os ⟨#[], #[], []⟩
  { w0 with heap := w0.heap.modify 1 fun
      | .cells _ t frozen => .cells #[.int .i64 0, .int .i64 0, .int .i64 1, .int .i64 2, .int .i64 0, .int .i64 1, .int .i64 3, .int .i64 0, .int .i64 2, .int .i64 3, .int .i64 2, .int .i64 1, .int .i64 1, .int .i64 0] t frozen
      | o => o }
theorem laid_met (os : Os) (args : Array Value) : laidMet Tryz.prog Rows.formulaLiftsRow.laid ((laidWorld os).forCall (fun _ _ => 0) ⟨#[], args, []⟩).memory :=
  laidMet_of_run (ps := [.cell 1 0, .cell 1 1, .cell 1 2, .cell 1 3, .cell 1 4, .cell 1 5, .cell 1 6, .cell 1 7, .cell 1 8, .cell 1 9, .cell 1 10, .cell 1 11, .cell 1 12, .cell 1 13]) 8 (by kernel_rfl) (by kernel_rfl) (by kernel_rfl)
theorem f_lifted (os : Os) (started : os.Started) (H : Type) (enc : TypeId × Value → H) :
    ReturnsInHanded {} Tryz.checked os 9 .any (fun w args => (Rows.formulaLiftsSpec.pre enc Tryz.prog Tryz.f9 Rows.formulaLiftsRow.domain false w args ∧ laidMet Tryz.prog Rows.formulaLiftsRow.laid w) ∧ sizedMet enc Tryz.prog Tryz.f9 (OpenSpec.ofChange Rows.formulaLiftsSpec) false w args)
      (Rows.formulaLiftsSpec.post enc Tryz.prog Tryz.f9 false true false false) := by
  refine returnsInHanded_of_change_and (C := Tryz.checked) (X := fun w _ => laidMet Tryz.prog Rows.formulaLiftsRow.laid w) (fun _ _ _ hh h => h.of_heap hh) own started (by kernel_rfl) Tryz.func9
    (ChangeSpec.witness_at (enc := enc) (C := Tryz.checked) (os := os) (X := fun w _ => laidMet Tryz.prog Rows.formulaLiftsRow.laid w) false (laidWorld os) #[.slice none 0 0] 8 rfl (by kernel_rfl) (by kernel_rfl) (by kernel_rfl) (by kernel_rfl) (by kernel_rfl) (laid_met os _)) ?_
  intro W base args ds gs before hval0 hW _ _ hL _
  have hval : ∀ (j : Nat) t v, Tryz.f9.params[j]? = some t → args[j]? = some v → Value.okWide Tryz.prog W .any base t v := hval0
  have hW' := hW
  obtain ⟨p, q, hA0, hV, rfl, hfz, hnd⟩ := hW
  have hA : DataW.TrodAll enc Tryz.prog W 0 (fun _ => true) true Tryz.f9.params.toList args.toList ds p := hA0
  rw [Tryz.params9] at hA hval
  obtain ⟨rfl, rfl⟩ := trodVars_none hV
  clear hA0 hval0
  simp only [List.append_nil] at hW'
  have hlt : ∀ x ∈ p, x.block < W.heap.size := fun x hx => by simpa using hW'.lt x hx
  have hargs : ∀ (W' : World), Below W.heap.size W W' → DataW.TrodAll enc Tryz.prog W' 0 (fun b => decide (b < W.heap.size)) true Tryz.f9.params.toList args.toList ds p := fun W' hn => by
    rw [Tryz.params9]
    exact below_trodAll laidOut hn (by kernel_rfl) hA hlt
  obtain ⟨v0, w0, d0, e0, p0, q0, ha0, rfl, rfl, h0, hA⟩ := trodAll_cons hA
  obtain ⟨rfl, rfl, rfl⟩ := trodAll_nil hA
  obtain rfl : args = #[v0] := by rw [← Array.toArray_toList (xs := args), ha0]
  obtain ⟨x0, r0⟩ := op_ints und_22 und_3 cells_int (hval 0 22 v0 rfl rfl) h0
  have hlaw : law07_FormulaLifts x0 = some true := lifts7_law x0
  refine (calls_of_ev (law07_FormulaLifts_ev hlaw) (gok_of_laid hL) (cargs := [v0]) (by simp only [RepVs]; exact ⟨v0, _, rfl, r0, rfl⟩)).mono ?_
  rintro e W' ⟨v, M', ι', rfl, hv, hb⟩
  simp only [RepV, RepD] at hv
  subst hv
  refine ⟨_, rfl, [d0], [], _, [], _, [], hW', ?_, hargs _ hb, rfl, hb.frame _, fun h => by cases h⟩
  exact trodAll_mk1 (shut_bool und_4 true)
theorem f_holds : Rows.FormulaLiftsSaid :=
  OpenClaim.holds_of_wide 9 Tryz.f9 rfl rfl rfl rfl rfl rfl rfl ⟨rfl, rfl, rfl, rfl, rfl⟩ rfl rfl rfl rfl rfl (by as_aux_lemma => kernel_rfl) Tryz.func9 joined
    (of_decide_eq_true (by kernel_rfl)) (by unfold Func.isWrapper; first | (rw [if_pos (by decide +kernel)]; kernel_rfl) | (rw [if_neg (by decide +kernel)]; exact ⟨rfl, rfl⟩))
    (fun os started H enc _ => f_lifted os started H enc)
theorem card_holds : Rows.FormulaLiftsCardSaid :=
  Claim7.holds_tied_plain_at .later [] [.data] true (true, "a15158022266383492caedf54ff2364eb30db27f8a1bcaf81ba2c9cc5f76e755") false
    f_holds (fun _ h => by cases h) (by as_aux_lemma => kernel_rfl) (fun _ h => by cases h) formulaLifts_row_tie rfl ⟨rfl, rfl⟩ (by as_aux_lemma => kernel_rfl) rfl
    (fun f fn hf hfn => by
      obtain rfl : f = 9 := Option.some.inj ((show Tryz.prog.funcNamed "proofprograms/proofprogramslaw07.FormulaLifts" = some 9 by kernel_rfl).symm.trans hf) |>.symm
      obtain rfl : fn = Tryz.f9 := (Option.some.inj (Tryz.func9.symm.trans hfn)).symm
      exact ⟨by kernel_rfl, fun j t ht => by
        rw [Tryz.params9] at ht
        have key : ∀ (ts : List Nat), ts.all (fun t => !Tryz.prog.wantsStandIn t) = true → ∀ j t, ts[j]? = some t → Tryz.prog.wantsStandIn t = false := fun ts h j t hj => by simpa using List.all_eq_true.1 h t (List.mem_of_getElem? hj)
        exact key [22] (by kernel_rfl) j t (by simpa using ht)⟩)
    (by as_aux_lemma => kernel_rfl)
#print axioms card_holds
end Go.Proofs.YtgilcibfknafiaaGreatDoor

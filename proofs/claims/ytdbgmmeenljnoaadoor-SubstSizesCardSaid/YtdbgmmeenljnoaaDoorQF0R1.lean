/-
  PROVED: the row SubstSizes and its card: for every input the law returns true, and each argument reads behind the call as it read before. Condition: the table of arities holds when the call begins what the program's text lays (the card ties it).
-/
import Derived.Test.YtdbgmmeenljnoaaDoorQF0P3
import Derived.Test.YtdbgmmeenljnoaaDoorAnZ
import Derived.Test.YtdbgmmeenljnoaaDoorAnR
import Derived.Test.YtdbgmmeenljnoaaDoorCards
import Derived.Test.YtdbgmmeenljnoaaDoorTie
set_option linter.unusedVariables false
set_option linter.unusedSimpArgs false
set_option maxRecDepth 100000
set_option maxHeartbeats 4000000
namespace Go.Proofs.YtdbgmmeenljnoaaDoor
open Go Go.AM Go.ChangeShapes Go.WideShapes Go.ChangeAt Go.RowKit
theorem own : ownKnob Tryd.prog.godebug = none := by kernel_rfl
theorem laidOut : laidOutB Tryd.prog = true := by kernel_rfl
theorem arN : Tryd.prog.globalNamed "proofprograms/tree.arities" = some 0 := by kernel_rfl
theorem arT : (Tryd.prog.globals[0]?).map (·.type) = some 112 := by kernel_rfl
theorem und_22 : Tryd.prog.underlying 22 = some (.slice 3) := by kernel_rfl
theorem und_3 : Tryd.prog.underlying 3 = some (.int .i64) := by kernel_rfl
theorem und_4 : Tryd.prog.underlying 4 = some (.bool) := by kernel_rfl
theorem und_112 : Tryd.prog.underlying 112 = some (.array 14 3) := by kernel_rfl
theorem cells_int : Tryd.prog.cellsOf 3 = 1 := by kernel_rfl
theorem cells_arr : Tryd.prog.cellsOf 112 = 14 := by kernel_rfl
/-- From what is laid to what the walk reads. -/
theorem gok_of_laid {W : World} (h : laidMet Tryd.prog Rows.substSizesRow.laid W) : GOk GL (allOf W) := by
  obtain ⟨ps, ⟨g, t, cs, fuel, p, q, hg, ht, hvar, hd, _, _⟩, _⟩ := h
  obtain rfl := Option.some.inj (arN.symm.trans hg)
  obtain rfl := Option.some.inj (arT.symm.trans ht)
  have hcs : cs.toList = arInts.map fun i => .int .i64 i := arr_ints (ns := arInts) und_112 und_3 cells_int cells_arr rfl hd
  intro g cs' hl
  unfold GL at hl
  rw [look_cons] at hl
  split at hl
  · rename_i e; subst e; injection hl with hl; subst hl
    refine row_of_cells (vs := arInts.map fun i => .int .i64 i) (fun j v hv => ?_) (by simp [arInts, RepVs, RepV, RepD])
    show W.cell? ⟨0, j, none⟩ = some v
    rw [World.var?_cell hg hvar j, ← hv, ← hcs, Array.getElem?_toList]
  · cases hl
/-- The settled world, but the variable is laid. -/
noncomputable def laidWorld (os : Os) : World :=
  let w0 := World.holding Tryd.prog os ⟨#[], #[], []⟩
  { w0 with heap := w0.heap.modify 0 fun
      | .cells _ t frozen => .cells #[.int .i64 0, .int .i64 0, .int .i64 1, .int .i64 2, .int .i64 0, .int .i64 1, .int .i64 3, .int .i64 0, .int .i64 2, .int .i64 3, .int .i64 2, .int .i64 1, .int .i64 1, .int .i64 0] t frozen
      | o => o }
theorem laid_met (os : Os) (args : Array Value) : laidMet Tryd.prog Rows.substSizesRow.laid ((laidWorld os).forCall (fun _ _ => 0) ⟨#[], args, []⟩).memory :=
  laidMet_of_run (ps := [.cell 0 0, .cell 0 1, .cell 0 2, .cell 0 3, .cell 0 4, .cell 0 5, .cell 0 6, .cell 0 7, .cell 0 8, .cell 0 9, .cell 0 10, .cell 0 11, .cell 0 12, .cell 0 13]) 8 (by kernel_rfl) (by kernel_rfl) (by kernel_rfl)
theorem f_lifted (os : Os) (started : os.Started) (H : Type) (enc : TypeId × Value → H) :
    ReturnsInHanded {} Tryd.checked os 4 .any (fun w args => (Rows.substSizesSpec.pre enc Tryd.prog Tryd.f4 Rows.substSizesRow.domain false w args ∧ laidMet Tryd.prog Rows.substSizesRow.laid w) ∧ sizedMet enc Tryd.prog Tryd.f4 (OpenSpec.ofChange Rows.substSizesSpec) false w args)
      (Rows.substSizesSpec.post enc Tryd.prog Tryd.f4 false true false false) := by
  refine returnsInHanded_of_change_and (C := Tryd.checked) (X := fun w _ => laidMet Tryd.prog Rows.substSizesRow.laid w) (fun _ _ _ hh h => h.of_heap hh) own started (by kernel_rfl) Tryd.func4
    (ChangeSpec.witness_at (enc := enc) (C := Tryd.checked) (os := os) (X := fun w _ => laidMet Tryd.prog Rows.substSizesRow.laid w) false (laidWorld os) #[.slice none 0 0] 8 rfl (by kernel_rfl) (by kernel_rfl) (by kernel_rfl) (by kernel_rfl) (by kernel_rfl) (laid_met os _)) ?_
  intro W base args ds gs before hval0 hW _ _ hL _
  have hval : ∀ (j : Nat) t v, Tryd.f4.params[j]? = some t → args[j]? = some v → Value.okWide Tryd.prog W .any base t v := hval0
  have hW' := hW
  obtain ⟨p, q, hA0, hV, rfl, hfz, hnd⟩ := hW
  have hA : DataW.TrodAll enc Tryd.prog W 0 (fun _ => true) true Tryd.f4.params.toList args.toList ds p := hA0
  rw [Tryd.params4] at hA hval
  obtain ⟨rfl, rfl⟩ := trodVars_none hV
  clear hA0 hval0
  simp only [List.append_nil] at hW'
  have hlt : ∀ x ∈ p, x.block < W.heap.size := fun x hx => by simpa using hW'.lt x hx
  have hargs : ∀ (W' : World), Below W.heap.size W W' → DataW.TrodAll enc Tryd.prog W' 0 (fun b => decide (b < W.heap.size)) true Tryd.f4.params.toList args.toList ds p := fun W' hn => by
    rw [Tryd.params4]
    exact below_trodAll laidOut hn (by kernel_rfl) hA hlt
  obtain ⟨v0, w0, d0, e0, p0, q0, ha0, rfl, rfl, h0, hA⟩ := trodAll_cons hA
  obtain ⟨rfl, rfl, rfl⟩ := trodAll_nil hA
  obtain rfl : args = #[v0] := by rw [← Array.toArray_toList (xs := args), ha0]
  obtain ⟨x0, r0⟩ := op_ints und_22 und_3 cells_int (hval 0 22 v0 rfl rfl) h0
  have hlaw : law03_SubstSizes x0 = some true := sizes_law x0
  refine (calls_of_ev (law03_SubstSizes_ev hlaw) (gok_of_laid hL) (cargs := [v0]) (by simp only [RepVs]; exact ⟨v0, _, rfl, r0, rfl⟩)).mono ?_
  rintro e W' ⟨v, M', ι', rfl, hv, hb⟩
  simp only [RepV, RepD] at hv
  subst hv
  refine ⟨_, rfl, [d0], [], _, [], _, [], hW', ?_, hargs _ hb, rfl, hb.frame _, fun h => by cases h⟩
  exact trodAll_mk1 (shut_bool und_4 true)
theorem f_holds : Rows.SubstSizesSaid :=
  OpenClaim.holds_of_wide 4 Tryd.f4 rfl rfl rfl rfl rfl rfl rfl ⟨rfl, rfl, rfl, rfl, rfl⟩ rfl rfl rfl rfl rfl (by kernel_rfl) Tryd.func4 (by kernel_rfl)
    (of_decide_eq_true (by kernel_rfl)) (by unfold Func.isWrapper; first | (rw [if_pos (by decide +kernel)]; kernel_rfl) | (rw [if_neg (by decide +kernel)]; exact ⟨rfl, rfl⟩))
    (fun os started H enc _ => f_lifted os started H enc)
theorem card_holds : Rows.SubstSizesCardSaid :=
  Claim7.holds_tied_plain_at .later [] [.data] true (true, "6b555d4c8ace20c5c75086ba58f16706760e45447f4e293a1f39fabfffc61683") false
    f_holds (fun _ h => by cases h) (by kernel_rfl) (fun _ h => by cases h) substSizes_row_tie rfl ⟨rfl, rfl⟩ (by kernel_rfl) rfl
    (fun f fn hf hfn => by
      obtain rfl : f = 4 := Option.some.inj ((show Tryd.prog.funcNamed "proofprograms/proofprogramslaw03.SubstSizes" = some 4 by kernel_rfl).symm.trans hf) |>.symm
      obtain rfl : fn = Tryd.f4 := (Option.some.inj (Tryd.func4.symm.trans hfn)).symm
      exact ⟨by kernel_rfl, fun j t ht => by
        rw [Tryd.params4] at ht
        have key : ∀ (ts : List Nat), ts.all (fun t => !Tryd.prog.wantsStandIn t) = true → ∀ j t, ts[j]? = some t → Tryd.prog.wantsStandIn t = false := fun ts h j t hj => by simpa using List.all_eq_true.1 h t (List.mem_of_getElem? hj)
        exact key [22] (by kernel_rfl) j t (by simpa using ht)⟩)
    (by kernel_rfl)
#print axioms card_holds
end Go.Proofs.YtdbgmmeenljnoaaDoor

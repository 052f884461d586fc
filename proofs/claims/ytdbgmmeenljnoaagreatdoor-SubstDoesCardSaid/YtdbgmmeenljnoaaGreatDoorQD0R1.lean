/-
  PROVED: the row SubstDoes and its card: for every input the law returns true, and each argument reads behind the call as it read before. Condition: the table of arities holds when the call begins what the program's text lays (the card ties it).
-/
import Derived.Test.YtdbgmmeenljnoaaGreatDoorQD0P4
import Derived.Test.YtdbgmmeenljnoaaGreatDoorZdAnZa
import Derived.Test.YtdbgmmeenljnoaaGreatDoorAnS
import Derived.Test.YtdbgmmeenljnoaaGreatDoorQD0J1
import Derived.Test.YtdbgmmeenljnoaaGreatDoorAnQ
import Derived.Test.YtdbgmmeenljnoaaGreatDoorCards
import Derived.Test.YtdbgmmeenljnoaaGreatDoorTie
set_option linter.unusedVariables false
set_option linter.unusedSimpArgs false
set_option maxRecDepth 100000
set_option maxHeartbeats 4000000
namespace Go.Proofs.YtdbgmmeenljnoaaGreatDoor
open Go Go.AM Go.ChangeShapes Go.WideShapes Go.ChangeAt Go.RowKit
theorem own : ownKnob Tryz.prog.godebug = none := by kernel_rfl
theorem laidOut : laidOutB Tryz.prog = true := by kernel_rfl
theorem arN : Tryz.prog.globalNamed "proofprograms/tree.arities" = some 0 := by kernel_rfl
theorem arT : (Tryz.prog.globals[0]?).map (·.type) = some 119 := by kernel_rfl
theorem und_22 : Tryz.prog.underlying 22 = some (.slice 3) := by kernel_rfl
theorem und_3 : Tryz.prog.underlying 3 = some (.int .i64) := by kernel_rfl
theorem lay_25 : LayT Tryz.prog 3 25 23 := ⟨by kernel_rfl, by kernel_rfl, by kernel_rfl, by kernel_rfl, by kernel_rfl, by kernel_rfl⟩
theorem lay_28 : LayM Tryz.prog 3 25 23 28 26 := ⟨lay_25, by kernel_rfl, by kernel_rfl, by kernel_rfl, by kernel_rfl⟩
theorem und_4 : Tryz.prog.underlying 4 = some (.bool) := by kernel_rfl
theorem und_119 : Tryz.prog.underlying 119 = some (.array 14 3) := by kernel_rfl
theorem cells_int : Tryz.prog.cellsOf 3 = 1 := by kernel_rfl
theorem cells_arr : Tryz.prog.cellsOf 119 = 14 := by kernel_rfl
/-- From what is laid to what the walk reads. -/
theorem gok_of_laid {W : World} (h : laidMet Tryz.prog Rows.substDoesRow.laid W) : GOk GL (allOf W) := by
  obtain ⟨ps, ⟨g, t, cs, fuel, p, q, hg, ht, hvar, hd, _, _⟩, _⟩ := h
  obtain rfl := Option.some.inj (arN.symm.trans hg)
  obtain rfl := Option.some.inj (arT.symm.trans ht)
  have hcs : cs.toList = arInts.map fun i => .int .i64 i := arr_ints (ns := arInts) und_119 und_3 cells_int cells_arr rfl hd
  intro g cs' hl
  unfold GL at hl
  rw [look_cons] at hl
  split at hl
  · rename_i e; subst e; injection hl with hl; subst hl
    refine row_of_cells (vs := arInts.map fun i => .int .i64 i) (fun j v hv => ?_) (by simp [arInts, RepVs, RepV, RepD])
    show W.cell? ⟨0, j, none⟩ = some v
    rw [World.var?_cell hg hvar j, ← hv, ← hcs, Array.getElem?_toList]
  · cases hl
/-- The settled world, but the variable is laid. -/
noncomputable def laidWorld (os : Os) : World :=
  let w0 := World.holding Tryz.prog os ⟨#[], #[], []⟩
  { w0 with heap := w0.heap.modify 0 fun
      | .cells _ t frozen => .cells #[.int .i64 0, .int .i64 0, .int .i64 1, .int .i64 2, .int .i64 0, .int .i64 1, .int .i64 3, .int .i64 0, .int .i64 2, .int .i64 3, .int .i64 2, .int .i64 1, .int .i64 1, .int .i64 0] t frozen
      | o => o }
theorem laid_met (os : Os) (args : Array Value) : laidMet Tryz.prog Rows.substDoesRow.laid ((laidWorld os).forCall (fun _ _ => 0) ⟨#[], args, []⟩).memory :=
  laidMet_of_run (ps := [.cell 0 0, .cell 0 1, .cell 0 2, .cell 0 3, .cell 0 4, .cell 0 5, .cell 0 6, .cell 0 7, .cell 0 8, .cell 0 9, .cell 0 10, .cell 0 11, .cell 0 12, .cell 0 13]) 8 (by kernel_rfl) (by kernel_rfl) (by kernel_rfl)
theorem f_lifted (os : Os) (started : os.Started) (H : Type) (enc : TypeId × Value → H) :
    ReturnsInHanded {} Tryz.checked os 3 .any (fun w args => (Rows.substDoesSpec.pre enc Tryz.prog Tryz.f3 Rows.substDoesRow.domain false w args ∧ laidMet Tryz.prog Rows.substDoesRow.laid w) ∧ sizedMet enc Tryz.prog Tryz.f3 (OpenSpec.ofChange Rows.substDoesSpec) false w args)
      (Rows.substDoesSpec.post enc Tryz.prog Tryz.f3 false true false false) := by
  refine returnsInHanded_of_change_and (C := Tryz.checked) (X := fun w _ => laidMet Tryz.prog Rows.substDoesRow.laid w) (fun _ _ _ hh h => h.of_heap hh) own started (by kernel_rfl) Tryz.func3
    (ChangeSpec.witness_at (enc := enc) (C := Tryz.checked) (os := os) (X := fun w _ => laidMet Tryz.prog Rows.substDoesRow.laid w) false (laidWorld os) #[.slice none 0 0, .agg #[.int .i64 0, .int .i64 0, .int .i64 0, .slice none 0 0, .slice none 0 0], .agg #[.int .i64 0, .int .i64 0, .int .i64 0, .slice none 0 0, .slice none 0 0], .int .i64 0, .int .i64 0] 8 rfl (by kernel_rfl) (by kernel_rfl) (by kernel_rfl) (by kernel_rfl) (by kernel_rfl) (laid_met os _)) ?_
  intro W base args ds gs before hval0 hW _ _ hL _
  have hval : ∀ (j : Nat) t v, Tryz.f3.params[j]? = some t → args[j]? = some v → Value.okWide Tryz.prog W .any base t v := hval0
  have hW' := hW
  obtain ⟨p, q, hA0, hV, rfl, hfz, hnd⟩ := hW
  have hA : DataW.TrodAll enc Tryz.prog W 0 (fun _ => true) true Tryz.f3.params.toList args.toList ds p := hA0
  rw [Tryz.params3] at hA hval
  obtain ⟨rfl, rfl⟩ := trodVars_none hV
  clear hA0 hval0
  simp only [List.append_nil] at hW'
  have hlt : ∀ x ∈ p, x.block < W.heap.size := fun x hx => by simpa using hW'.lt x hx
  have hargs : ∀ (W' : World), Below W.heap.size W W' → DataW.TrodAll enc Tryz.prog W' 0 (fun b => decide (b < W.heap.size)) true Tryz.f3.params.toList args.toList ds p := fun W' hn => by
    rw [Tryz.params3]
    exact below_trodAll laidOut hn (by kernel_rfl) hA hlt
  obtain ⟨v0, w0, d0, e0, p0, q0, ha0, rfl, rfl, h0, hA⟩ := trodAll_cons hA
  obtain ⟨v1, w1, d1, e1, p1, q1, rfl, rfl, rfl, h1, hA⟩ := trodAll_cons hA
  obtain ⟨v2, w2, d2, e2, p2, q2, rfl, rfl, rfl, h2, hA⟩ := trodAll_cons hA
  obtain ⟨v3, w3, d3, e3, p3, q3, rfl, rfl, rfl, h3, hA⟩ := trodAll_cons hA
  obtain ⟨v4, w4, d4, e4, p4, q4, rfl, rfl, rfl, h4, hA⟩ := trodAll_cons hA
  obtain ⟨rfl, rfl, rfl⟩ := trodAll_nil hA
  obtain rfl : args = #[v0, v1, v2, v3, v4] := by rw [← Array.toArray_toList (xs := args), ha0]
  obtain ⟨x0, r0⟩ := op_ints und_22 und_3 cells_int (hval 0 22 v0 rfl rfl) h0
  obtain ⟨fs1, hfs1⟩ := layB_und lay_28.l
  obtain ⟨x1, z1, r1⟩ := op_agg hfs1 (rd_trm lay_28) (hval 1 28 v1 rfl rfl) h1
  obtain ⟨fs2, hfs2⟩ := layB_und lay_28.l
  obtain ⟨x2, z2, r2⟩ := op_agg hfs2 (rd_trm lay_28) (hval 2 28 v2 rfl rfl) h2
  obtain ⟨x3, r3, l3, u3⟩ := op_int und_3 (hval 3 3 v3 rfl rfl) h3
  rw [show IntKind.i64.min = -9223372036854775808 by decide] at l3
  rw [show IntKind.i64.max = 9223372036854775807 by decide] at u3
  obtain ⟨x4, r4, l4, u4⟩ := op_int und_3 (hval 4 3 v4 rfl rfl) h4
  rw [show IntKind.i64.min = -9223372036854775808 by decide] at l4
  rw [show IntKind.i64.max = 9223372036854775807 by decide] at u4
  have hlaw : law03_SubstDoes x0 x1 x2 x3 x4 = some true := does_law x0 x1 x2 x3 x4 (TrmR.idx (by decide) _ z1) (TrmR.idx (by decide) _ z2)
  refine (calls_of_ev (law03_SubstDoes_ev hlaw) (gok_of_laid hL) (cargs := [v0, v1, v2, v3, v4]) (by simp only [RepVs]; exact ⟨v0, _, rfl, r0, ⟨v1, _, rfl, r1, ⟨v2, _, rfl, r2, ⟨v3, _, rfl, r3, ⟨v4, _, rfl, r4, rfl⟩⟩⟩⟩⟩)).mono ?_
  rintro e W' ⟨v, M', ι', rfl, hv, hb⟩
  simp only [RepV, RepD] at hv
  subst hv
  refine ⟨_, rfl, [d0, d1, d2, d3, d4], [], _, [], _, [], hW', ?_, hargs _ hb, rfl, hb.frame _, fun h => by cases h⟩
  exact trodAll_mk1 (shut_bool und_4 true)
theorem f_holds : Rows.SubstDoesSaid :=
  OpenClaim.holds_of_wide 3 Tryz.f3 rfl rfl rfl rfl rfl rfl rfl ⟨rfl, rfl, rfl, rfl, rfl⟩ rfl rfl rfl rfl rfl (by as_aux_lemma => kernel_rfl) Tryz.func3 joined
    (of_decide_eq_true (by kernel_rfl)) (by unfold Func.isWrapper; first | (rw [if_pos (by decide +kernel)]; kernel_rfl) | (rw [if_neg (by decide +kernel)]; exact ⟨rfl, rfl⟩))
    (fun os started H enc _ => f_lifted os started H enc)
theorem card_holds : Rows.SubstDoesCardSaid :=
  Claim7.holds_tied_plain_at .later [] [.data] true (true, "2a4e979f5f94e08bc8ba249b86ac8de58cd95dd33bba6c9e271914b2c56e95b9") false
    f_holds (fun _ h => by cases h) (by as_aux_lemma => kernel_rfl) (fun _ h => by cases h) substDoes_row_tie rfl ⟨rfl, rfl⟩ (by as_aux_lemma => kernel_rfl) rfl
    (fun f fn hf hfn => by
      obtain rfl : f = 3 := Option.some.inj ((show Tryz.prog.funcNamed "proofprograms/proofprogramslaw03.SubstDoes" = some 3 by kernel_rfl).symm.trans hf) |>.symm
      obtain rfl : fn = Tryz.f3 := (Option.some.inj (Tryz.func3.symm.trans hfn)).symm
      exact ⟨by kernel_rfl, fun j t ht => by
        rw [Tryz.params3] at ht
        have key : ∀ (ts : List Nat), ts.all (fun t => !Tryz.prog.wantsStandIn t) = true → ∀ j t, ts[j]? = some t → Tryz.prog.wantsStandIn t = false := fun ts h j t hj => by simpa using List.all_eq_true.1 h t (List.mem_of_getElem? hj)
        exact key [22, 28, 28, 3, 3] (by kernel_rfl) j t (by simpa using ht)⟩)
    (by as_aux_lemma => kernel_rfl)
#print axioms card_holds
end Go.Proofs.YtdbgmmeenljnoaaGreatDoor

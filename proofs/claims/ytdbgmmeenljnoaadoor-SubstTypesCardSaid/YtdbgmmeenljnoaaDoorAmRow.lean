/-
  PROVED: for every list of numbers the law SubstTypes returns true, and the list reads afterwards as it read before. Condition: the table of arities holds when the call begins what the program's text lays (the card ties it).
-/
import Derived.Test.YtdbgmmeenljnoaaDoorAmP8
import Derived.Test.YtdbgmmeenljnoaaDoorAmU
import Derived.Test.YtdbgmmeenljnoaaDoorAmV
import Derived.Test.YtdbgmmeenljnoaaDoorCards
import Derived.Test.YtdbgmmeenljnoaaDoorTie
set_option linter.unusedVariables false
set_option linter.unusedSimpArgs false
set_option maxRecDepth 100000
namespace Go.AM
open Go Go.RowKit Go.Proofs
theorem SubstTypes_ev (L : List Int) : Ev Tryd.prog GL 3 [.d (.slice (dInts L))] [] (.d (.bool true)) [] := SubstTypes_walk L (law_types L)
end Go.AM
namespace Go.Proofs.YtdbgmmeenljnoaaDoor
open Go Go.AM Go.ChangeShapes Go.WideShapes Go.ChangeAt Go.RowKit
theorem own : ownKnob Tryd.prog.godebug = none := by kernel_rfl
theorem laidOut : laidOutB Tryd.prog = true := by kernel_rfl
theorem arN : Tryd.prog.globalNamed "proofprograms/tree.arities" = some 0 := by kernel_rfl
theorem arT : (Tryd.prog.globals[0]?).map (·.type) = some 112 := by kernel_rfl
def arNs : List Int := [0, 0, 1, 2, 0, 1, 3, 0, 2, 3, 2, 1, 1, 0]
theorem und_arr : Tryd.prog.underlying 112 = some (.array 14 3) := by kernel_rfl
theorem und_int : Tryd.prog.underlying 3 = some (.int .i64) := by kernel_rfl
theorem und_ints : Tryd.prog.underlying 22 = some (.slice 3) := by kernel_rfl
theorem und_bool : Tryd.prog.underlying 4 = some .bool := by kernel_rfl
theorem cells_int : Tryd.prog.cellsOf 3 = 1 := by kernel_rfl
theorem cells_arr : Tryd.prog.cellsOf 112 = 14 := by kernel_rfl
/-- From what is laid to what the walk reads. -/
theorem gok_of_laid {W : World} (h : laidMet Tryd.prog Rows.substTypesRow.laid W) : GOk GL (allOf W) := by
  obtain ⟨ps, ⟨g, t, cs, fuel, p, q, hg, ht, hvar, hd, _, _⟩, _⟩ := h
  obtain rfl := Option.some.inj (arN.symm.trans hg)
  obtain rfl := Option.some.inj (arT.symm.trans ht)
  have hcs : cs.toList = arNs.map fun i => .int .i64 i := arr_ints (ns := arNs) und_arr und_int cells_int cells_arr rfl hd
  intro g cs' hl
  unfold GL at hl
  rw [look_cons] at hl
  split at hl
  · rename_i e; subst e; injection hl with hl; subst hl
    refine row_of_cells (vs := arNs.map fun i => .int .i64 i) (fun j v hv => ?_) (by simp [arCells, arNs, RepVs, RepV, RepD])
    show W.cell? ⟨0, j, none⟩ = some v
    rw [World.var?_cell hg hvar j, ← hv, ← hcs, Array.getElem?_toList]
  · cases hl
/-- The settled world, but the variable is laid. -/
noncomputable def laidWorld (os : Os) : World :=
  let w0 := World.holding Tryd.prog os ⟨#[], #[], []⟩
  { w0 with heap := w0.heap.modify 0 fun
      | .cells _ t frozen => .cells #[.int .i64 0, .int .i64 0, .int .i64 1, .int .i64 2, .int .i64 0, .int .i64 1, .int .i64 3, .int .i64 0, .int .i64 2, .int .i64 3, .int .i64 2, .int .i64 1, .int .i64 1, .int .i64 0] t frozen
      | o => o }
theorem laid_met (os : Os) (args : Array Value) : laidMet Tryd.prog Rows.substTypesRow.laid ((laidWorld os).forCall (fun _ _ => 0) ⟨#[], args, []⟩).memory :=
  laidMet_of_run (ps := [.cell 0 0, .cell 0 1, .cell 0 2, .cell 0 3, .cell 0 4, .cell 0 5, .cell 0 6, .cell 0 7, .cell 0 8, .cell 0 9, .cell 0 10, .cell 0 11, .cell 0 12, .cell 0 13]) 8 (by kernel_rfl) (by kernel_rfl) (by kernel_rfl)
theorem f_lifted (os : Os) (started : os.Started) (H : Type) (enc : TypeId × Value → H) :
    ReturnsInHanded {} Tryd.checked os 3 .any (fun w args => (Rows.substTypesSpec.pre enc Tryd.prog Tryd.f3 Rows.substTypesRow.domain false w args ∧ laidMet Tryd.prog Rows.substTypesRow.laid w) ∧ sizedMet enc Tryd.prog Tryd.f3 (OpenSpec.ofChange Rows.substTypesSpec) false w args)
      (Rows.substTypesSpec.post enc Tryd.prog Tryd.f3 false true false false) := by
  refine returnsInHanded_of_change_and (C := Tryd.checked) (X := fun w _ => laidMet Tryd.prog Rows.substTypesRow.laid w) (fun _ _ _ hh h => h.of_heap hh) own started (by kernel_rfl) Tryd.func3
    (ChangeSpec.witness_at (enc := enc) (C := Tryd.checked) (os := os) (X := fun w _ => laidMet Tryd.prog Rows.substTypesRow.laid w) false (laidWorld os) #[.slice none 0 0] 8 rfl (by kernel_rfl) (by kernel_rfl) (by kernel_rfl) (by kernel_rfl) (by kernel_rfl) (laid_met os _)) ?_
  intro W base args ds gs before hval0 hW _ _ hL _
  have hval : ∀ (j : Nat) t v, Tryd.f3.params[j]? = some t → args[j]? = some v → Value.okWide Tryd.prog W .any base t v := hval0
  have hW' := hW
  obtain ⟨p, q, hA0, hV, rfl, hfz, hnd⟩ := hW
  have hA : DataW.TrodAll enc Tryd.prog W 0 (fun _ => true) true Tryd.f3.params.toList args.toList ds p := hA0
  rw [Tryd.params3] at hA hval
  obtain ⟨v0, d0, rfl, rfl, h0⟩ := trodAll_one hA
  obtain ⟨rfl, rfl⟩ := trodVars_none hV
  obtain ⟨a0, len, cap, rfl⟩ := okWide_slice und_ints (hval 0 22 v0 rfl rfl)
  have h0k := h0
  obtain ⟨fuel, hf⟩ := h0
  clear hA0 hval0
  simp only [List.append_nil] at hW'
  have hlt : ∀ x ∈ p, x.block < W.heap.size := fun x hx => by simpa using hW'.lt x hx
  have hargs : ∀ (W' : World), Below W.heap.size W W' → DataW.Trod enc Tryd.prog W' 0 (fun b => decide (b < W.heap.size)) true 22 (.slice a0 len cap) d0 p :=
    fun W' hn => Below.trod laidOut (by kernel_rfl) (of_decide_eq_true (by kernel_rfl)) h0k hn hlt
  have hrep : ∃ L : List Int, RepVs (allOf W) (fun _ => none) [.d (.slice (dInts L))] [.slice a0 len cap] := by
    rcases open_ints und_ints und_int cells_int hf with ⟨hcs, hx⟩ | ⟨a, len', cap', zs, hcs, _, hl, hm, hz, hx, hcell, hwz⟩
    · simp [Value.cells] at hcs
      obtain ⟨rfl, rfl, rfl⟩ := hcs
      exact ⟨[], ⟨_, _, rfl, ⟨_, _, 1, rfl, Nat.le_refl _, Nat.zero_le _, fun e h => (by cases h), fun h => absurd rfl h⟩, rfl⟩⟩
    · simp [Value.cells] at hcs
      obtain ⟨rfl, rfl, rfl⟩ := hcs
      simp only [if_true] at hz
      refine ⟨zs.take len, ?_⟩
      have hle : (dInts (zs.take len)).length = len := by rw [dInts_len, List.length_take]; omega
      simp only [RepVs, RepV, RepD]
      refine ⟨_, _, rfl, ⟨some a, cap, 1, by rw [hle], by rw [hle]; exact hl, by rw [hle]; omega, dInts_sz _, fun hne => ?_⟩, rfl⟩
      have hpos : 0 < zs.length := by
        cases zs with
        | nil => simp [dInts] at hne
        | cons z zs => simp
      have hsp : a.spot = none := by
        have := cell_spot (hcell 0 hpos)
        rwa [show a.add 0 = a from if_pos rfl] at this
      refine ⟨a, rfl, hsp, repRows_ints hsp fun i hi => ?_⟩
      have hi' : i < zs.length := by rw [List.length_take] at hi; omega
      show W.cell? (a.add i) = _
      rw [hcell i hi']
      rw [List.length_take] at hi
      rw [getD_at _ _ hi', getD_at _ _ (by rw [List.length_take]; exact hi), List.getElem_take]
  obtain ⟨L, hrep⟩ := hrep
  refine (calls_of_ev (SubstTypes_ev L) (gok_of_laid hL) hrep).mono ?_
  rintro e W' ⟨v, M', ι', rfl, hv, hb⟩
  simp only [RepV, RepD] at hv
  subst hv
  refine ⟨_, rfl, [d0], [], p, [], p, [], hW', ?_, trodAll_mk1 (hargs _ hb), rfl, hb.frame _, fun h => by cases h⟩
  exact trodAll_mk1 (shut_bool und_bool true)
theorem f_holds : Rows.SubstTypesSaid :=
  OpenClaim.holds_of_wide 3 Tryd.f3 rfl rfl rfl rfl rfl rfl rfl ⟨rfl, rfl, rfl, rfl, rfl⟩ rfl rfl rfl rfl rfl (by kernel_rfl) Tryd.func3 (by kernel_rfl)
    (of_decide_eq_true (by kernel_rfl)) (by unfold Func.isWrapper; first | (rw [if_pos (by decide +kernel)]; kernel_rfl) | (rw [if_neg (by decide +kernel)]; exact ⟨rfl, rfl⟩))
    (fun os started H enc _ => f_lifted os started H enc)
theorem card_holds : Rows.SubstTypesCardSaid :=
  Claim7.holds_tied_plain_at .later [] [.data] true (true, "6b555d4c8ace20c5c75086ba58f16706760e45447f4e293a1f39fabfffc61683") false
    f_holds (fun _ h => by cases h) (by kernel_rfl) (fun _ h => by cases h) substTypes_row_tie rfl ⟨rfl, rfl⟩ (by kernel_rfl) rfl
    (fun f fn hf hfn => by
      obtain rfl : f = 3 := Option.some.inj ((show Tryd.prog.funcNamed "proofprograms/proofprogramslaw03.SubstTypes" = some 3 by kernel_rfl).symm.trans hf) |>.symm
      obtain rfl : fn = Tryd.f3 := (Option.some.inj (Tryd.func3.symm.trans hfn)).symm
      exact ⟨by kernel_rfl, fun j t ht => by
        rw [Tryd.params3] at ht
        have h3 : t = 22 := by
          rcases j with _ | j
          · simpa using ht.symm
          · simp at ht
        subst h3
        exact (show Tryd.prog.wantsStandIn 22 = false by kernel_rfl)⟩)
    (by kernel_rfl)
#print axioms card_holds
end Go.Proofs.YtdbgmmeenljnoaaDoor

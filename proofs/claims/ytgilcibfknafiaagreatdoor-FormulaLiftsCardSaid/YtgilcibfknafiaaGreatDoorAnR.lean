/-
  From a row's premise to a contract, argument by argument.
-/
import Derived.Test.YtgilcibfknafiaaGreatDoorAnE
import Derived.Test.YtgilcibfknafiaaGreatDoorAmV
import Derived.WideShapes
import Derived.Carry
set_option linter.unusedVariables false
set_option linter.unusedSimpArgs false
namespace Go.AM
open Go Go.RowKit Go.ChangeShapes Go.WideShapes Go.ChangeAt
variable {H : Type} {enc : TypeId × Value → H} {P : Program} {W : World}
theorem below_trodAll {W' : World} (hl : laidOutB P = true) (hb : Below W.heap.size W W') : ∀ {ts : List TypeId} {vs : List Value} {ds : List (DataW H)} {ps : List MemPlace}, ts.all (fun t => P.readableRec t && decide (t < P.types.size)) = true → DataW.TrodAll enc P W 0 (fun _ => true) true ts vs ds ps →
    (∀ x ∈ ps, x.block < W.heap.size) → DataW.TrodAll enc P W' 0 (fun b => decide (b < W.heap.size)) true ts vs ds ps
  | [], vs, ds, ps, _, h, _ => by
    obtain ⟨rfl, rfl, rfl⟩ := trodAll_nil h
    exact rfl
  | t :: ts, vs, ds, ps, ht, h, hlt => by
    obtain ⟨v, vs', d, ds', p, q, rfl, rfl, rfl, h0, h1⟩ := trodAll_cons h
    simp only [List.all_cons, Bool.and_eq_true] at ht
    exact ⟨p, q, Below.trod hl ht.1.1 (of_decide_eq_true ht.1.2) h0 hb (fun x hx => hlt x (List.mem_append_left _ hx)), below_trodAll hl hb ht.2 h1 (fun x hx => hlt x (List.mem_append_right _ hx)), rfl⟩
theorem op_ints {t e : TypeId} {v : Value} {d : DataW H} {p : List MemPlace} {r : Reach} {b0 : Nat} (ht : P.underlying t = some (.slice e)) (he : P.underlying e = some (.int .i64)) (hc : P.cellsOf e = 1) (hval : Value.okWide P W r b0 t v) (h0 : DataW.Trod enc P W 0 (fun _ => true) true t v d p) :
    ∃ L : List Int, RepV (allOf W) (fun _ => none) (.d (.slice (dInts L))) v := by
  obtain ⟨a0, len, cap, rfl⟩ := okWide_slice ht hval
  obtain ⟨fuel, hf⟩ := h0
  rcases open_ints ht he hc hf with ⟨hcs, hx⟩ | ⟨a, len', cap', zs, hcs, _, hl, hm, hz, hx, hcell, hwz⟩
  · simp [Value.cells] at hcs
    obtain ⟨rfl, rfl, rfl⟩ := hcs
    exact ⟨[], _, _, 1, rfl, Nat.le_refl _, Nat.zero_le _, fun e h => (by cases h), fun h => absurd rfl h⟩
  · simp [Value.cells] at hcs
    obtain ⟨rfl, rfl, rfl⟩ := hcs
    simp only [if_true] at hz
    refine ⟨zs.take len, ?_⟩
    have hle : (dInts (zs.take len)).length = len := by rw [dInts_len, List.length_take]; omega
    simp only [RepV, RepD]
    refine ⟨some a, cap, 1, by rw [hle], by rw [hle]; exact hl, by rw [hle]; omega, dInts_sz _, fun hne => ?_⟩
    have hpos : 0 < zs.length := by
      cases zs with
      | nil => simp [dInts] at hne
      | cons z zs => simp
    have hsp : a.spot = none := by
      have := cell_spot (hcell 0 hpos)
      rwa [show a.add 0 = a from if_pos rfl] at this
    refine ⟨a, rfl, hsp, repRows_ints hsp fun i hi => ?_⟩
    have hi' : i < zs.length := by rw [List.length_take] at hi; omega
    show W.cell? (a.add i) = _
    rw [hcell i hi']
    rw [List.length_take] at hi
    rw [List.getD_eq_getElem?_getD, List.getD_eq_getElem?_getD, List.getElem?_take_of_lt (by omega)]
theorem op_int {t : TypeId} {k : IntKind} {v : Value} {d : DataW H} {p : List MemPlace} {r : Reach} {b0 : Nat} (ht : P.underlying t = some (.int k)) (hval : Value.okWide P W r b0 t v) (h0 : DataW.Trod enc P W 0 (fun _ => true) true t v d p) :
    ∃ n : Int, RepV (allOf W) (fun _ => none) (.d (.int k n)) v ∧ k.min ≤ n ∧ n ≤ k.max := by
  obtain ⟨n, rfl, _, _, hw⟩ := open_int ht hval h0
  simp only [Lit.wf, Bool.and_eq_true, decide_eq_true_eq] at hw
  exact ⟨n, by simp [RepV, RepD], hw.1, hw.2⟩
theorem op_bool {t : TypeId} {v : Value} {d : DataW H} {p : List MemPlace} {r : Reach} {b0 : Nat} (ht : P.underlying t = some .bool) (hval : Value.okWide P W r b0 t v) (h0 : DataW.Trod enc P W 0 (fun _ => true) true t v d p) :
    ∃ b : Bool, RepV (allOf W) (fun _ => none) (.d (.bool b)) v := by
  obtain ⟨b, rfl, _⟩ := open_bool ht hval h0
  exact ⟨b, by simp [RepV, RepD]⟩
end Go.AM

/-
  From a row's premise to a contract's, and back.
-/
import Derived.Test.YtgilcibfknafiaaGreatDoorAmK
import Derived.ProofKit
import Derived.LaidLaws
import Derived.Handed
set_option linter.unusedVariables false
set_option linter.unusedSimpArgs false
namespace Go.AM
open Go Go.RowKit

/-- All that lies in a world. -/
def allOf (W : World) : Mem := fun a => W.cell? a
theorem start_inv (W : World) (ι : Env) : Inv (Entry.of (allOf W) ι (look []) W) (allOf W) ι (look []) W where
  mem := fun _ _ h => h
  obj := fun _ _ h => by cases h
  inj := fun _ _ _ _ _ _ _ h => by cases h
  sep := fun _ _ _ _ h => by cases h
  own := fun _ _ _ _ h => by cases h
  le := fun _ _ h => h
  new := fun a v hv hn => by
    have : allOf W a = none := hn
    rw [hv] at this; cases this
  size := Nat.le_refl _
  os := rfl
  tape := rfl
  output := rfl
  frame := fun _ _ => rfl
/-- A contract without objects, for any world that holds what it reads. -/
theorem calls_of_ev {P : Program} {G : Gl} {f : FuncId} {args : List V} {ret : V} (h : Ev P G f args [] ret []) {W : World} {cargs : List Value} (hg : GOk G (allOf W)) (hr : RepVs (allOf W) (fun _ => none) args cargs) :
    Calls P f cargs.toArray W fun e W' => ∃ v M' ι', e = .returned v ∧ RepV M' ι' ret v ∧ Below W.heap.size W W' := by
  refine (h.2 (allOf W) (fun _ => none) W cargs (start_inv W _) hg hr (fun _ h => absurd rfl h)).mono ?_
  rintro e W' ⟨M', ι', v, rfl, hgr, _, hi, hv⟩
  refine ⟨v, M', ι', rfl, hv, hi.os, hi.tape, hi.output, hi.size, fun k hk => hi.frame k ?_⟩
  rintro (hb | ⟨l, o, bd, h1, _⟩)
  · exact absurd hb (by show ¬ W.heap.size ≤ k; omega)
  · cases h1
theorem mapM_at {α β : Type} {f : α → Option β} : ∀ {xs : List α} {ys : List β}, xs.mapM f = some ys → ∀ (j : Nat) (x : α), xs[j]? = some x → ∃ y, ys[j]? = some y ∧ f x = some y
  | [], ys, h, j, x, hx => by simp at hx
  | a :: xs, ys, h, j, x, hx => by
    rw [List.mapM_cons] at h
    simp only [Option.bind_eq_bind, Option.bind_eq_some_iff] at h
    obtain ⟨y, h1, zs, h2, h3⟩ := h
    injection h3 with h3; subst h3
    cases j with
    | zero => simp at hx; subst hx; exact ⟨y, rfl, h1⟩
    | succ j => simp at hx; obtain ⟨z, e1, e2⟩ := mapM_at h2 j x hx; exact ⟨z, by simpa using e1, e2⟩
/-- An array of numbers that reads as it is laid. -/
theorem arr_ints {P : Program} {H : Type} {enc : TypeId × Value → H} {w : World} {base : Nat} {spare : Nat → Bool} {held : Bool} {fuel t e n : Nat} {k : IntKind} (ht : P.underlying t = some (.array n e)) (he : P.underlying e = some (.int k)) (hc : P.cellsOf e = 1) (hct : P.cellsOf t = n)
    {cs : List Value} {ns : List Int} {p : List MemPlace} (hn : ns.length = n) (h : DataW.trod enc P w base spare held fuel t cs = some (.agg (ns.map fun i => .lit (.int k i)), p)) : cs = ns.map fun i => .int k i := by
  cases fuel with
  | zero => simp [DataW.trod] at h
  | succ fuel =>
    unfold DataW.trod at h
    rw [ht] at h
    simp only [hct, hc, Nat.mul_one] at h
    split at h
    · rename_i hlen
      simp only [Option.map_eq_some_iff] at h
      obtain ⟨ys, hys, hy⟩ := h
      have hy1 := congrArg Prod.fst hy
      simp only [DataW.agg.injEq] at hy1
      refine List.ext_getElem? fun i => ?_
      by_cases hi : i < n
      · obtain ⟨y, h1, h2⟩ := mapM_at hys i i (by simp [hi])
        obtain ⟨s, h3, h4, _⟩ := DataW.trod_int he h2
        have h5 : (cs.drop i).take 1 = [cs[i]'(by omega)] := by
          rw [List.drop_eq_getElem_cons (by omega)]; rfl
        rw [h5] at h3
        have h6 : (ys.map (·.1))[i]? = some (.lit (.int k s)) := by rw [List.getElem?_map, h1, h4]; rfl
        rw [hy1, List.getElem?_map, List.getElem?_eq_getElem (by omega)] at h6
        have h7 : ns[i]'(by omega) = s := by simpa using h6
        rw [List.getElem?_eq_getElem (by omega), List.getElem?_map, List.getElem?_eq_getElem (by omega)]
        have h8 : cs[i]'(by omega) = .int k s := by injection h3
        rw [h8, h7]; rfl
      · rw [List.getElem?_eq_none (by omega), List.getElem?_eq_none (by simp; omega)]
    · cases h
theorem row_of_cells {M : Mem} {g : Nat} {ds : List D} {vs : List Value} (h : ∀ j v, vs[j]? = some v → M ⟨g, j, none⟩ = some v) (hr : RepVs M (fun _ => none) (ds.map V.d) vs) : RepRow M ds ⟨g, 0, none⟩ :=
  RepRow.of rfl hr (fun j v hv => by
    have := h j v hv
    rw [show (Addr.add ⟨g, 0, none⟩ j) = ⟨g, j, none⟩ by unfold Addr.add; simp; intro e; exact e.symm]
    exact this)
theorem repRows_ints {M : Mem} {k : IntKind} : ∀ {zs : List Int} {ad : Addr}, ad.spot = none → (∀ i, i < zs.length → M (ad.add i) = some (.int k (zs.getD i 0))) → RepRows M (zs.map fun i => [.int k i]) ad
  | [], _, _, _ => by simp [RepRows]
  | z :: zs, ad, hs, h => by
    simp only [List.map_cons, RepRows, RepRow]
    have h0 := h 0 (by simp)
    rw [show ad.add 0 = ad by cases ad; simp only at hs; subst hs; simp [Addr.add]] at h0
    refine ⟨⟨⟨_, h0, by simp [RepD]⟩, trivial⟩, repRows_ints (add_spot hs 1) fun i hi => ?_⟩
    have := h (i + 1) (by simp; omega)
    simp only [List.length_cons, List.length_nil]
    rw [add_add hs, Nat.zero_add, Nat.add_comm]
    simpa using this
end Go.AM

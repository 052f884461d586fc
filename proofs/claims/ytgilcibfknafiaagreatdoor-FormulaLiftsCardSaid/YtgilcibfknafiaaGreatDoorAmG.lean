/-
  The operations, second part: stores, literals, slices, append, calls.
-/
import Derived.Test.YtgilcibfknafiaaGreatDoorAmF
import Derived.Deep.AppendSrc
set_option linter.unusedVariables false
set_option linter.unusedSimpArgs false
namespace Go.AM
open Go Go.RowKit

/-- A list with some elements in place of its own. -/
def spl {α : Type} (xs : List α) (k : Nat) (ys : List α) : List α := xs.take k ++ ys ++ xs.drop (k + ys.length)
theorem RepVs.spl {M : Mem} {ι : Env} {cs : List V} {vs : List Value} {ds : List V} {us : List Value} (k : Nat) (h : RepVs M ι cs vs) (h' : RepVs M ι ds us) : RepVs M ι (AM.spl cs k ds) (AM.spl vs k us) := by
  unfold AM.spl
  rw [h'.length]
  exact ((h.take k).append h').append (h.drop _)

/-- A store into an object's cells, the act of it. -/
theorem Inv.store {P : Program} {E M ι H w} (h : Inv E M ι H w) {l off n : Nat} {vs us : List V} {t tc : TypeId} {b0 : Bool} {bd : Bind} {b : Nat} {v : Value} (ht : Ty P t n b0) (ho : H l = some (.cells vs tc)) (hb : ι l = some bd) (hk : bd.blk = some b)
    (hv : RepVs M ι us v.cells.toList) (h1 : ∀ u ∈ v.cells.toList, u.oneCell' = true) (hn : us.length = n) (hfit : off + n ≤ vs.length) :
    ∃ w', (storeVar t ⟨b, off, none⟩ v).run P w = .ok () w' ∧ Inv E M ι (H.set l (some (.cells (AM.spl vs off us) tc))) w' := by
  obtain ⟨bd', b', cs, c1, c2, c3, c4, c5, c6, c7⟩ := h.cells ho
  rw [hb] at c1; injection c1 with c1; subst c1
  rw [hk] at c3; injection c3 with c3; subst c3
  obtain ⟨i, h3, h4⟩ := ht.info
  have hlen := hv.length
  have hl2 := c5.length
  have hsz : v.cells.size = n := by rw [← Array.length_toList, hlen, hn]
  have hrun := run_storeCells_at P b off tc v.cells.toList 0 cs.toArray w c4 (by simp; omega) h1
  simp only [Nat.add_zero] at hrun
  have hsp : (cs.toArray.toList.take off ++ v.cells.toList ++ cs.toArray.toList.drop (off + v.cells.toList.length)) = AM.spl cs off v.cells.toList := rfl
  rw [hsp] at hrun
  refine ⟨w.setRow b (AM.spl cs off v.cells.toList).toArray, ?_, ?_⟩
  · simp only [storeVar, sizeOf, typeInfo, Sem.run_bind, run_program, Result.andThen_ok, h3, Sem.run_pure, h4, hsz, ne_eq, not_true_eq_false, if_false]
    exact hrun
  · have hspl : AM.spl vs off us = AM.spl vs off us := rfl
    have hr : RepVs M ι (AM.spl vs off us) (AM.spl cs off v.cells.toList) := RepVs.spl off c5 hv
    refine h.write ho hb hk hr ?_ (setRow_heap w b _ _ _ _ c4) (fun k hk' => setRow_other w b k _ hk') (by simp) rfl rfl rfl
    intro x hx
    simp only [AM.spl, List.mem_append] at hx
    rcases hx with (hx | hx) | hx
    · exact c6 x (List.mem_of_mem_take hx)
    · exact h1 x hx
    · exact c6 x (List.mem_of_mem_drop hx)

section
variable {P : Program} {C : Ctx} {ops : Array Oper} {rest : List Oper} {ρ : List (Nat × V)} {σ : List (Nat × Option O)} {ls : List Nat} {K : List FP → A → Prop}

theorem t_store {t : TypeId} {x y : Operand} {ty pos af gd} {l off n : Nat} {vs us ws : List V} {v : V} {tc : TypeId} {b0 : Bool} (ht : Ty P t n b0) (hx : opd C.G (look ρ) x = some (.ptr l off)) (hy : opd C.G (look ρ) y = some v) (hc : Cells v us)
    (ho : lookO σ l = some (.cells vs tc)) (hn : us.length = n) (hfit : Nat.ble (off + n) vs.length = true) (hw : spl vs off us = ws)
    (hg : guardIs ops (look ρ) ⟨none, .store t x y, ty, pos, af, gd⟩ true)
    (h : Tr P C ops rest ⟨ρ, (l, some (.cells ws tc)) :: σ, l :: ls⟩ (fun fs x' => K (⟨Oper.looksAt ops ⟨none, .store t x y, ty, pos, af, gd⟩, none, [l], [l]⟩ :: fs) x')) : Tr P C ops (⟨none, .store t x y, ty, pos, af, gd⟩ :: rest) ⟨ρ, σ, ls⟩ K := by
  subst hw
  refine tr_op hg rfl (vals := [.ptr l off, v]) (fp := [(l, .cells vs tc)]) (wr := [(l, some (.cells (spl vs off us) tc))]) (v := .any) ⟨_, _, rfl, hx, _, _, rfl, hy, rfl⟩ ?_
    (fun l' o' hm => by simp at hm; obtain ⟨rfl, rfl⟩ := hm; exact ho) (fun l' h1 h2 => by simp at h1 h2; exact absurd h1 h2) h
  intro E M ι H w a next Q hi hG hfp hvs _ hk
  have hH := hfp l (.cells vs tc) (by simp)
  simp only [Op.operands, List.map_cons, List.map_nil, RepVs] at hvs
  obtain ⟨c, r, e1, e2, c2, r2, e3, e4, _⟩ := hvs
  injection e1 with e1 e5
  rw [e3] at e5; injection e5 with e5 _
  simp only [RepV] at e2
  obtain ⟨bd, b, k1, k2, k3, k4⟩ := e2
  rw [← e5] at e4
  obtain ⟨m1, m2⟩ := hc.rep e4
  obtain ⟨w', hr, hinv⟩ := hi.store (P := P) ht hH k1 k3 m1 m2 hn (Nat.le_of_ble_eq_true hfit)
  have hrun : (execOp a.eval ⟨none, .store t x y, ty, pos, af, gd⟩).run P w = .ok .skip w' := by
    simp only [execOp, e1, k4, Instr.storeAt, Instr.sureAddr, Sem.run_bind, Sem.run_pure, Result.andThen_ok, hr]
  unfold Oper.wp
  rw [hrun, Oper.upon_skip]
  exact hk M ι w' undef (Grow.refl _ _) (fun _ _ => rfl) (by rw [Sto.upd_one]; exact hinv) (by simp [RepV])

/-- A part of a literal's cells, part by part. -/
inductive CellsAll : List V → List (List V) → Prop
  | nil : CellsAll [] []
  | cons {v vs x xs} : Cells v vs → CellsAll x xs → CellsAll (v :: x) (vs :: xs)
def places (P : Program) (t : Nat) : List (Nat × Nat) :=
  match P.underlying t with
  | some (.struct fs) => fs.toList.map fun f => (f.offset, match P.info? f.type with | some i => i.size | none => 0)
  | _ => []
structure Plc (P : Program) (t : Nat) (ps : List (Nat × Nat)) : Prop where
  out : ∃ fs, P.underlying t = some (.struct fs) ∧ (∀ f ∈ fs.toList, ∃ j, P.info? f.type = some j) ∧ ps = fs.toList.map fun f => (f.offset, match P.info? f.type with | some i => i.size | none => 0)
def plcB (P : Program) (t : Nat) : Bool :=
  match P.underlying t with
  | some (.struct fs) => fs.toList.all fun f => (P.info? f.type).isSome
  | _ => false
theorem Plc.of {P : Program} {t : Nat} {ps : List (Nat × Nat)} (h1 : plcB P t = true) (h2 : places P t = ps) : Plc P t ps := by
  unfold plcB at h1
  unfold places at h2
  split at h1
  · rename_i fs hfs
    rw [hfs] at h2
    simp only [List.all_eq_true, Option.isSome_iff_exists] at h1
    exact ⟨fs, hfs, fun f hf => h1 f hf, h2.symm⟩
  · cases h1
def buildV (ps : List (Nat × Nat)) (cells : List V) : List (Nat × List V) → Option (List V)
  | [] => some cells
  | (i, us) :: r => match ps[i]? with
    | none => none
    | some (off, size) => match Nat.decEq us.length size, Nat.ble (off + us.length) cells.length with
      | .isTrue _, true => buildV ps (spl cells off us) r
      | _, _ => none
theorem fold_spl (off : Nat) : ∀ (us : List Value) (j : Nat) (cells : Array Value), off + j + us.length ≤ cells.size → ((us.zipIdx j).foldl (fun cs (p : Value × Nat) => cs.setIfInBounds (off + p.2) p.1) cells).toList = AM.spl cells.toList (off + j) us
  | [], j, cells, h => by simp [AM.spl]
  | u :: us, j, cells, h => by
    simp only [List.zipIdx_cons, List.foldl_cons, List.length_cons] at h ⊢
    rw [fold_spl off us (j + 1) _ (by simp; omega)]
    unfold AM.spl
    rw [Array.toList_setIfInBounds]
    have hlt : off + j < cells.toList.length := by simp; omega
    rw [show off + (j + 1) = (off + j) + 1 by omega]
    rw [List.take_set, List.drop_set_of_lt (by omega)]
    rw [List.take_add_one, List.getElem?_eq_getElem hlt]
    simp only [List.length_cons, Option.toList_some]
    rw [List.set_append_right _ _ (by simp; omega)]
    simp only [List.length_take]
    rw [Nat.min_eq_left (by omega)]
    simp [Nat.add_assoc, Nat.add_comm 1]
theorem fill_run {M : Mem} {ι : Env} {place : Nat → Option (Nat × Nat)} {ps : List (Nat × Nat)} (hp : ∀ i, ps[i]? = place i) : ∀ (parts : List (Nat × List V)) (xs : List (Nat × Value)) (cells : List V) (cs : Array Value) (res : List V), RepVs M ι cells cs.toList →
    (parts.length = xs.length ∧ ∀ (k i : Nat) (us : List V) (j : Nat) (v : Value), parts[k]? = some (i, us) → xs[k]? = some (j, v) → i = j ∧ RepVs M ι us v.cells.toList) → buildV ps cells parts = some res → ∃ cs' : Array Value, Instr.fill place cs xs = some cs' ∧ RepVs M ι res cs'.toList ∧ (∀ x ∈ cs'.toList, x ∈ cs.toList ∨ ∃ p ∈ xs, x ∈ p.2.cells.toList)
  | [], xs, cells, cs, res, h, ⟨hl, _⟩, hb => by
    have : xs = [] := List.eq_nil_of_length_eq_zero hl.symm
    subst this
    simp only [buildV, Option.some.injEq] at hb; subst hb
    exact ⟨cs, rfl, h, fun x hx => .inl hx⟩
  | (i, us) :: r, [], cells, cs, res, h, ⟨hl, _⟩, hb => by simp at hl
  | (i, us) :: r, (j, v) :: xs, cells, cs, res, h, ⟨hl, hr⟩, hb => by
    obtain ⟨rfl, hv⟩ := hr 0 i us j v rfl rfl
    simp only [buildV] at hb
    split at hb
    · cases hb
    · rename_i off size hps
      split at hb
      · rename_i e1 _ e2 e3
        have hle := Nat.le_of_ble_eq_true e3
        have hlen := hv.length
        have hlen2 := h.length
        simp only [Array.length_toList] at hlen hlen2
        have hpl : place i = some (off, size) := by rw [← hp]; exact hps
        simp only [Instr.fill, hpl]
        have hc1 : ¬ (v.cells.size ≠ size) := by omega
        have hc2 : ¬ (off + v.cells.size > cs.size) := by omega
        simp only [hc1, hc2, decide_false, Bool.or_self, Bool.false_eq_true, if_false]
        generalize hcs1 : (v.cells.zipIdx.foldl (fun cs (p : Value × Nat) => cs.setIfInBounds (off + p.2) p.1) cs) = cs1
        have hcs1' : cs1.toList = AM.spl cs.toList off v.cells.toList := by
          have := fold_spl off v.cells.toList 0 cs (by simp; omega)
          rw [Nat.add_zero] at this
          rw [← hcs1, ← this]
          congr 1
          rw [← Array.foldl_toList]
          simp
        have ih := fill_run hp r xs (AM.spl cells off us) cs1 res (by rw [hcs1']; exact RepVs.spl off h hv) ⟨by simpa using hl, fun k a b c d h1 h2 => hr (k + 1) a b c d (by simpa using h1) (by simpa using h2)⟩ hb
        obtain ⟨cs', k1, k2, k3⟩ := ih
        refine ⟨cs', ?_, k2, fun x hx => ?_⟩
        · have : (fun cs (x : Value × Nat) => cs.setIfInBounds (off + x.2) x.1) = (fun (cs : Array Value) (x : Value × Nat) => match x with | (c, j) => cs.setIfInBounds (off + j) c) := rfl
          rw [← k1, ← hcs1]
        · rcases k3 x hx with h1 | ⟨p, hp', h1⟩
          · rw [hcs1'] at h1
            simp only [AM.spl, List.mem_append] at h1
            rcases h1 with (h1 | h1) | h1
            · exact .inl (List.mem_of_mem_take h1)
            · exact .inr ⟨_, List.mem_cons_self, h1⟩
            · exact .inl (List.mem_of_mem_drop h1)
          · exact .inr ⟨p, List.mem_cons_of_mem _ hp', h1⟩
      · cases hb

theorem CellsAll.get {M : Mem} {ι : Env} : ∀ {xs : List V} {uss : List (List V)} {vs : List Value}, CellsAll xs uss → RepVs M ι xs vs → xs.length = uss.length ∧ ∀ (k : Nat) (us : List V) (v : Value), uss[k]? = some us → vs[k]? = some v → RepVs M ι us v.cells.toList ∧ ∀ u ∈ v.cells.toList, u.oneCell' = true
  | _, _, _, .nil, _ => ⟨rfl, fun _ _ _ h => by simp at h⟩
  | _, _, _, .cons hc hr, h => by
    simp only [RepVs] at h
    obtain ⟨v, r, rfl, h1, h2⟩ := h
    have ih := CellsAll.get hr h2
    refine ⟨by simp [ih.1], fun k us u hk hu => ?_⟩
    cases k with
    | zero => simp at hk hu; subst hk; subst hu; exact hc.rep h1
    | succ k => simp at hk hu; exact ih.2 k us u hk hu

/-- A struct, put together. -/
theorem t_build {dst : Option Nat} {t : TypeId} {parts : Array (Nat × Operand)} {ty pos af gd} {zs : List D} {ps : List (Nat × Nat)} {vals : List V} {uss : List (List V)} {res : List V} (hz : Zer P t zs) (hp : Plc P t ps) (hx : Opds C.G (look ρ) (parts.toList.map (·.2)) vals) (hc : CellsAll vals uss)
    (hb : buildV ps (zs.map V.d) ((parts.toList.map (·.1)).zip uss) = some res)
    (hg : guardIs ops (look ρ) ⟨dst, .build t parts, ty, pos, af, gd⟩ true) (hN : dstOk ⟨dst, .build t parts, ty, pos, af, gd⟩ C.N = true)
    (h : Tr P C ops rest ⟨putL ρ dst (.agg res), σ, ls⟩ (fun fs x' => K (⟨Oper.looksAt ops ⟨dst, .build t parts, ty, pos, af, gd⟩, dst, [], []⟩ :: fs) x')) : Tr P C ops (⟨dst, .build t parts, ty, pos, af, gd⟩ :: rest) ⟨ρ, σ, ls⟩ K := by
  obtain ⟨i, z, h1, h2, h3⟩ := hz.rep
  obtain ⟨fs, p1, p3, p4⟩ := hp.out
  refine tr_pure hg hN (vals := vals) (by simpa [Op.operands] using hx) (aop_value fun M ι a w _ hvs => ?_) h
  have hvs' : RepVs M ι vals ((parts.toList.map (·.2)).map a.eval) := by simpa [Op.operands] using hvs
  have hall := CellsAll.get hc hvs'
  have hlen := hvs'.length
  simp only [List.length_map] at hlen
  have hplaces : (fs.mapM (m := Sem) fun f => do pure (f.offset, ← sizeOf f.type)).run P w = .ok ps.toArray w := by
    have : ∀ (l : List Field), (∀ f ∈ l, ∃ j, P.info? f.type = some j) → (l.mapM (m := Sem) fun f => do pure (f.offset, ← sizeOf f.type)).run P w = .ok (l.map fun f => (f.offset, match P.info? f.type with | some i => i.size | none => 0)) w := by
      intro l
      induction l with
      | nil => intro _; simp
      | cons f l ih =>
        intro hf
        have q1 := ih (fun g hg => hf g (List.mem_cons_of_mem _ hg))
        obtain ⟨j, hj⟩ := hf f List.mem_cons_self
        rw [List.mapM_cons]
        simp only [Sem.run_bind, sizeOf, typeInfo, run_program, Result.andThen_ok, hj, Sem.run_pure, List.map_cons] at q1 ⊢
        rw [q1]
        rfl
    rw [← Array.toArray_toList (xs := fs), List.mapM_toArray]
    simp only [Sem.run_map, this fs.toList p3, Result.andThen_ok, p4]
  have hfill := fill_run (M := M) (ι := ι) (place := fun k => ps.toArray[k]?) (ps := ps) (fun k => by simp) ((parts.toList.map (·.1)).zip uss) (parts.toList.map fun p => (p.1, a.eval p.2)) (zs.map V.d) z.cells res (h3 M ι) ⟨by rw [List.length_zip, List.length_map, List.length_map, ← hall.1, ← hlen]; simp, fun k i us j v e1 e2 => ?hh⟩ hb
  case hh =>
    rw [List.getElem?_zip_eq_some] at e1
    simp only [List.getElem?_map, Option.map_eq_some_iff] at e1 e2
    obtain ⟨⟨p, e3, e4⟩, e5⟩ := e1
    obtain ⟨p', e6, e7⟩ := e2
    rw [e3] at e6; injection e6 with e6; subst e6
    injection e7 with e7 e8
    refine ⟨by rw [← e4, ← e7], ?_⟩
    exact (hall.2 k us v e5 (by simp [e3, e8])).1
  obtain ⟨cs', f1, f2, f3⟩ := hfill
  refine ⟨.agg cs', ?_, ?_⟩
  · simp only [execOp, Instr.build, zeroValue, typeInfo, underlying, Sem.run_bind, run_program, Result.andThen_ok, h1, h2, Sem.run_pure, p1]
    rw [hplaces]
    simp only [Result.andThen_ok]
    rw [show (parts.map fun x => match x with | (i, x) => (i, a.eval x)).toList = parts.toList.map fun p => (p.1, a.eval p.2) by simp]
    rw [f1]
    simp
  · simp only [RepV]
    refine ⟨cs'.toList, by simp, f2, fun x hx => ?_⟩
    rcases f3 x hx with h' | ⟨p, hp', h'⟩
    · obtain ⟨k, hk⟩ := List.getElem?_of_mem h'
      have hr := h3 M ι
      have hlt : k < zs.length := by
        have := (List.getElem?_eq_some_iff.1 hk).1
        have e := hr.length; simp at e; simp at this; omega
      obtain ⟨u, k1, k2⟩ := hr.get (i := k) (c := V.d zs[k]) (by simp [hlt])
      rw [hk] at k1; injection k1 with k1; subst k1
      simp only [RepV] at k2
      exact k2.one
    · obtain ⟨k, hk⟩ := List.getElem?_of_mem hp'
      have hlt : k < parts.toList.length := by
        have := (List.getElem?_eq_some_iff.1 hk).1; simpa using this
      simp only [List.getElem?_map, Option.map_eq_some_iff] at hk
      obtain ⟨q, q1, q2⟩ := hk
      have hlu : k < uss.length := by rw [← hall.1]; omega
      refine (hall.2 k uss[k] p.2 (List.getElem?_eq_getElem hlu) ?_).2 x h'
      simp [q1, ← q2]
end
end Go.AM

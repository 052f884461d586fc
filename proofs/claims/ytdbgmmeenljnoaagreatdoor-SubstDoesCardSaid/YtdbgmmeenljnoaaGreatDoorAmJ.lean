/-
  The same laws in the forms in which a program prints them; a loop over a slice.
  Branches on a boolean, joins, loops with a proposition; equalities of what is returned.
-/
import Derived.Test.YtdbgmmeenljnoaaGreatDoorAmI
set_option linter.unusedVariables false
set_option linter.unusedSimpArgs false
namespace Go.AM
open Go Go.RowKit

def cellsL : V → Option (List V)
  | .agg vs => some vs
  | .any => none
  | .tup _ => none
  | .d x => some [.d x]
  | .full es => some [.full es]
  | .ptr l o => some [.ptr l o]
  | .cptr cs => some [.cptr cs]
  | .own es l => some [.own es l]
  | .clo f cs => some [.clo f cs]
  | .map l => some [.map l]
  | .arr n l => some [.arr n l]
  | .aptr n l sz i o => some [.aptr n l sz i o]
  | .val _ => none
theorem Cells.ofL {v : V} {vs : List V} (h : cellsL v = some vs) : Cells v vs := by
  cases v <;> simp only [cellsL, Option.some.injEq] at h <;> first | (subst h; constructor) | cases h
def cellsLs : List V → Option (List (List V))
  | [] => some []
  | v :: r => match cellsL v, cellsLs r with
    | some x, some xs => some (x :: xs)
    | _, _ => none
theorem CellsAll.ofL : ∀ {vs : List V} {uss : List (List V)}, cellsLs vs = some uss → CellsAll vs uss
  | [], uss, h => by simp only [cellsLs, Option.some.injEq] at h; subst h; exact .nil
  | v :: r, uss, h => by
    unfold cellsLs at h
    split at h
    · rename_i x xs h1 h2
      injection h with h; subst h
      exact .cons (Cells.ofL h1) (CellsAll.ofL h2)
    · cases h
/-- Some of the operands' values, as a list that is reckoned. -/
def opdL (G : Gl) (ρ : Nat → Option V) : List Operand → Option (List V)
  | [] => some []
  | x :: r => match opd G ρ x, opdL G ρ r with
    | some v, some vs => some (v :: vs)
    | _, _ => none
theorem Opds.ofL {G : Gl} {ρ : Nat → Option V} : ∀ {xs : List Operand} {vs : List V}, opdL G ρ xs = some vs → Opds G ρ xs vs
  | [], vs, h => by simp only [opdL, Option.some.injEq] at h; exact h.symm
  | x :: r, vs, h => by
    unfold opdL at h
    split at h
    · rename_i v us h1 h2
      injection h with h; subst h
      exact ⟨v, us, rfl, h1, Opds.ofL h2⟩
    · cases h

section
variable {P : Program} {C : Ctx} {ops : Array Oper} {rest : List Oper} {ρ : List (Nat × V)} {σ : List (Nat × Option O)} {ls : List Nat} {K : List FP → A → Prop} {Q : Exit → A → Prop}

/-- A new object at whatever label is free. -/
theorem s_alloc {d : Nat} {t : TypeId} {ty pos af gd} {zs : List D} {vs : List V} (L : Nat) (hz : Zer P t zs) (hv : zs.map V.d = vs) (hg : guardIs ops (look ρ) ⟨some d, .alloc t, ty, pos, af, gd⟩ true) (hN : dstOk ⟨some d, .alloc t, ty, pos, af, gd⟩ C.N = true) (hl : memB L ls = false)
    (h : Tr P C ops rest ⟨(d, .ptr L 0) :: ρ, (L, some (.cells vs t)) :: σ, L :: ls⟩ (fun fs x' => K (⟨Oper.looksAt ops ⟨some d, .alloc t, ty, pos, af, gd⟩, some d, [], [L]⟩ :: fs) x')) : Tr P C ops (⟨some d, .alloc t, ty, pos, af, gd⟩ :: rest) ⟨ρ, σ, ls⟩ K := by
  obtain ⟨i, z, h1, h2, h3⟩ := hz.rep
  subst hv
  refine tr_op hg hN (vals := []) (fp := []) (wr := [(L, some (.cells (zs.map V.d) t))]) (v := .ptr L 0) rfl ?_ (fun _ _ h => by cases h) (fun l hl' _ => by simp at hl'; subst hl'; exact not_mem_of hl) h
  intro E M ι H w a next Q hi hG _ _ hfr hk
  have hfr' : ι L = none := hfr L (by simp) (by simp)
  have hrun : (execOp a.eval ⟨some d, .alloc t, ty, pos, af, gd⟩).run P w = .ok (.value (.pointer (some ⟨w.heap.size, 0, none⟩))) (w.alloc (.cells z.cells t)) := by
    simp only [execOp, Instr.alloc, zeroValue, typeInfo, Sem.run_bind, run_program, Result.andThen_ok, h1, Sem.run_pure, h2, newVar, newRow, run_newObj]
    rfl
  unfold Oper.wp
  rw [hrun, Oper.upon_value]
  have hr := h3 M ι
  have hinv := hi.alloc hfr' t hr (fun x hx => by
    obtain ⟨k, hk⟩ := List.getElem?_of_mem hx
    have hlt : k < zs.length := by
      have := (List.getElem?_eq_some_iff.1 hk).1
      have e := hr.length; simp at e; simp at this; omega
    obtain ⟨u, k1, k2⟩ := hr.get (i := k) (c := V.d zs[k]) (by simp [hlt])
    rw [hk] at k1; injection k1 with k1; subst k1
    simp only [RepV] at k2
    exact k2.one)
  refine hk M _ _ _ (Grow.fresh (fun _ _ h => h) hfr' _) (fun l hl' => Env.set_other _ _ (by simpa using hl')) (by rw [Sto.upd_one]; simpa using hinv) ?_
  simp only [RepV]
  exact ⟨_, _, Env.set_same _ _ _, rfl, rfl, rfl⟩
theorem s_box {d : Nat} {t : TypeId} {x : Operand} {ty pos af gd} {v : V} {vs : List V} (L : Nat) (hx : opd C.G (look ρ) x = some v) (hc : cellsL v = some vs) (hg : guardIs ops (look ρ) ⟨some d, .box t x, ty, pos, af, gd⟩ true) (hN : dstOk ⟨some d, .box t x, ty, pos, af, gd⟩ C.N = true) (hl : memB L ls = false)
    (h : Tr P C ops rest ⟨(d, .ptr L 0) :: ρ, (L, some (.cells vs t)) :: σ, L :: ls⟩ (fun fs x' => K (⟨Oper.looksAt ops ⟨some d, .box t x, ty, pos, af, gd⟩, some d, [], [L]⟩ :: fs) x')) : Tr P C ops (⟨some d, .box t x, ty, pos, af, gd⟩ :: rest) ⟨ρ, σ, ls⟩ K := by
  have hc := Cells.ofL hc
  refine tr_op hg hN (vals := [v]) (fp := []) (wr := [(L, some (.cells vs t))]) (v := .ptr L 0) ⟨_, _, rfl, hx, rfl⟩ ?_ (fun _ _ h => by cases h) (fun l hl' _ => by simp at hl'; subst hl'; exact not_mem_of hl) h
  intro E M ι H w a next Q hi hG _ hvs hfr hk
  have hfr' : ι L = none := hfr L (by simp) (by simp)
  simp only [Op.operands, List.map_cons, List.map_nil, RepVs] at hvs
  obtain ⟨c, r, e1, e2, _⟩ := hvs
  injection e1 with e1 _
  rw [← e1] at e2
  obtain ⟨k1, k2⟩ := hc.rep e2
  have hrun : (execOp a.eval ⟨some d, .box t x, ty, pos, af, gd⟩).run P w = .ok (.value (.pointer (some ⟨w.heap.size, 0, none⟩))) (w.alloc (.cells (a.eval x).cells t)) := by
    simp only [execOp, Instr.box, newVar, newRow, Sem.run_bind, run_newObj, Result.andThen_ok, Sem.run_pure]
    rfl
  unfold Oper.wp
  rw [hrun, Oper.upon_value]
  have hinv := hi.alloc hfr' t k1 k2
  refine hk M _ _ _ (Grow.fresh (fun _ _ h => h) hfr' _) (fun l hl' => Env.set_other _ _ (by simpa using hl')) (by rw [Sto.upd_one]; simpa using hinv) ?_
  simp only [RepV]
  exact ⟨_, _, Env.set_same _ _ _, rfl, rfl, rfl⟩

theorem s_build {dst : Option Nat} {t : TypeId} {parts : Array (Nat × Operand)} {ty pos af gd} {zs : List D} {ps : List (Nat × Nat)} {vals : List V} {uss : List (List V)} {res : List V} (hz : Zer P t zs) (hp : Plc P t ps) (hx : opdL C.G (look ρ) (parts.toList.map (·.2)) = some vals) (hc : cellsLs vals = some uss)
    (hb : buildV ps (zs.map V.d) ((parts.toList.map (·.1)).zip uss) = some res)
    (hg : guardIs ops (look ρ) ⟨dst, .build t parts, ty, pos, af, gd⟩ true) (hN : dstOk ⟨dst, .build t parts, ty, pos, af, gd⟩ C.N = true)
    (h : Tr P C ops rest ⟨putL ρ dst (.agg res), σ, ls⟩ (fun fs x' => K (⟨Oper.looksAt ops ⟨dst, .build t parts, ty, pos, af, gd⟩, dst, [], []⟩ :: fs) x')) : Tr P C ops (⟨dst, .build t parts, ty, pos, af, gd⟩ :: rest) ⟨ρ, σ, ls⟩ K :=
  t_build hz hp (Opds.ofL hx) (CellsAll.ofL hc) hb hg hN h

/-- A store of the whole, of a part. -/
theorem s_storeW {t : TypeId} {x y : Operand} {ty pos af gd} {l n : Nat} {vs us : List V} {v : V} {tc : TypeId} {b0 : Bool} (ht : Ty P t n b0) (hx : opd C.G (look ρ) x = some (.ptr l 0)) (hy : opd C.G (look ρ) y = some v) (hc : cellsL v = some us)
    (ho : lookO σ l = some (.cells vs tc)) (hn : us.length = n) (hfit : vs.length = n)
    (hg : guardIs ops (look ρ) ⟨none, .store t x y, ty, pos, af, gd⟩ true)
    (h : Tr P C ops rest ⟨ρ, (l, some (.cells us tc)) :: σ, l :: ls⟩ (fun fs x' => K (⟨Oper.looksAt ops ⟨none, .store t x y, ty, pos, af, gd⟩, none, [l], [l]⟩ :: fs) x')) : Tr P C ops (⟨none, .store t x y, ty, pos, af, gd⟩ :: rest) ⟨ρ, σ, ls⟩ K := by
  refine t_store ht hx hy (Cells.ofL hc) ho hn ?_ ?_ hg h
  · rw [Nat.zero_add, hfit]; exact Nat.ble_self_eq_true n
  · unfold spl
    rw [List.take_zero, List.nil_append, Nat.zero_add, hn, ← hfit, List.drop_length, List.append_nil]
theorem s_store {t : TypeId} {x y : Operand} {ty pos af gd} {l off n : Nat} {vs us ws : List V} {v : V} {tc : TypeId} {b0 : Bool} (ht : Ty P t n b0) (hx : opd C.G (look ρ) x = some (.ptr l off)) (hy : opd C.G (look ρ) y = some v) (hc : cellsL v = some us)
    (ho : lookO σ l = some (.cells vs tc)) (hn : us.length = n) (hfit : Nat.ble (off + n) vs.length = true) (hw : spl vs off us = ws)
    (hg : guardIs ops (look ρ) ⟨none, .store t x y, ty, pos, af, gd⟩ true)
    (h : Tr P C ops rest ⟨ρ, (l, some (.cells ws tc)) :: σ, l :: ls⟩ (fun fs x' => K (⟨Oper.looksAt ops ⟨none, .store t x y, ty, pos, af, gd⟩, none, [l], [l]⟩ :: fs) x')) : Tr P C ops (⟨none, .store t x y, ty, pos, af, gd⟩ :: rest) ⟨ρ, σ, ls⟩ K :=
  t_store ht hx hy (Cells.ofL hc) ho hn hfit hw hg h

theorem s_loadWc {dst : Option Nat} {t : TypeId} {x : Operand} {ty pos af gd} {cs : List D} {n : Nat} (ht : Ty P t n true) (hx : opd C.G (look ρ) x = some (.cptr cs)) (hn : cs.length = n)
    (hg : guardIs ops (look ρ) ⟨dst, .load t x, ty, pos, af, gd⟩ true) (hN : dstOk ⟨dst, .load t x, ty, pos, af, gd⟩ C.N = true)
    (h : Tr P C ops rest ⟨putL ρ dst (.agg (cs.map V.d)), σ, ls⟩ (fun fs x' => K (⟨Oper.looksAt ops ⟨dst, .load t x, ty, pos, af, gd⟩, dst, [], []⟩ :: fs) x')) : Tr P C ops (⟨dst, .load t x, ty, pos, af, gd⟩ :: rest) ⟨ρ, σ, ls⟩ K :=
  t_loadNc ht hx (by rw [← hn, List.take_length]) hn hg hN h

/-- A result that is known by another name. -/
theorem s_bin {dst : Option Nat} {op : BinOp} {tx ty' : TypeId} {x y : Operand} {ty pos af gd} {k : IntKind} {i j : Int} {r r' : D} (hx : opd C.G (look ρ) x = some (.d (.int k i))) (hy : opd C.G (look ρ) y = some (.d (.int k j))) (hi : IntOp op k i j r) (he : r = r')
    (hg : guardIs ops (look ρ) ⟨dst, .binOp op tx x y ty', ty, pos, af, gd⟩ true) (hN : dstOk ⟨dst, .binOp op tx x y ty', ty, pos, af, gd⟩ C.N = true)
    (h : Tr P C ops rest ⟨putL ρ dst (.d r'), σ, ls⟩ (fun fs x' => K (⟨Oper.looksAt ops ⟨dst, .binOp op tx x y ty', ty, pos, af, gd⟩, dst, [], []⟩ :: fs) x')) : Tr P C ops (⟨dst, .binOp op tx x y ty', ty, pos, af, gd⟩ :: rest) ⟨ρ, σ, ls⟩ K := by
  subst he; exact t_bin hx hy hi hg hN h
theorem run_equal_bool {t : TypeId} (ht : P.underlying t = some .bool) (i j : Bool) (w : World) : (Op.equal t (.bool i) (.bool j)).run P w = .ok (i == j) w := by
  unfold Op.equal Op.maxDepth
  rw [show (10000 : Nat) = 9999 + 1 from rfl]
  unfold Op.equalIn
  simp only [Sem.run_bind, run_underlying ht, Result.andThen_ok, Sem.run_pure]
theorem t_eqBool {dst : Option Nat} {tx ty' : TypeId} {x y : Operand} {ty pos af gd} {i j : Bool} {r : Bool} (ht : P.underlying tx = some .bool) (hx : opd C.G (look ρ) x = some (.d (.bool i))) (hy : opd C.G (look ρ) y = some (.d (.bool j))) (he : (i == j) = r)
    (hg : guardIs ops (look ρ) ⟨dst, .binOp .eql tx x y ty', ty, pos, af, gd⟩ true) (hN : dstOk ⟨dst, .binOp .eql tx x y ty', ty, pos, af, gd⟩ C.N = true)
    (h : Tr P C ops rest ⟨putL ρ dst (.d (.bool r)), σ, ls⟩ (fun fs x' => K (⟨Oper.looksAt ops ⟨dst, .binOp .eql tx x y ty', ty, pos, af, gd⟩, dst, [], []⟩ :: fs) x')) : Tr P C ops (⟨dst, .binOp .eql tx x y ty', ty, pos, af, gd⟩ :: rest) ⟨ρ, σ, ls⟩ K := by
  subst he
  refine tr_two (x := x) (y := y) rfl hx hy hg hN (fun M ι a w _ h1 h2 => ?_) h
  simp only [RepV, RepD] at h1 h2
  refine ⟨.bool (i == j), ?_, by simp only [RepV, RepD]⟩
  simp only [execOp, h1, h2, Sem.run_bind, run_eqGuard_bool, Result.andThen_ok, binOp, run_equal_bool ht, Sem.run_pure]
theorem t_neBool {dst : Option Nat} {tx ty' : TypeId} {x y : Operand} {ty pos af gd} {i j : Bool} {r : Bool} (ht : P.underlying tx = some .bool) (hx : opd C.G (look ρ) x = some (.d (.bool i))) (hy : opd C.G (look ρ) y = some (.d (.bool j))) (he : (i != j) = r)
    (hg : guardIs ops (look ρ) ⟨dst, .binOp .neq tx x y ty', ty, pos, af, gd⟩ true) (hN : dstOk ⟨dst, .binOp .neq tx x y ty', ty, pos, af, gd⟩ C.N = true)
    (h : Tr P C ops rest ⟨putL ρ dst (.d (.bool r)), σ, ls⟩ (fun fs x' => K (⟨Oper.looksAt ops ⟨dst, .binOp .neq tx x y ty', ty, pos, af, gd⟩, dst, [], []⟩ :: fs) x')) : Tr P C ops (⟨dst, .binOp .neq tx x y ty', ty, pos, af, gd⟩ :: rest) ⟨ρ, σ, ls⟩ K := by
  subst he
  refine tr_two (x := x) (y := y) rfl hx hy hg hN (fun M ι a w _ h1 h2 => ?_) h
  simp only [RepV, RepD] at h1 h2
  refine ⟨.bool (i != j), ?_, by simp only [RepV, RepD]⟩
  simp only [execOp, h1, h2, Sem.run_bind, run_eqGuard_bool, Result.andThen_ok, binOp, run_equal_bool ht, Sem.run_pure, bne]

/-- Calls. -/
theorem s_call {dst : Option Nat} {fo : Operand} {as : Array Operand} {ts : Array TypeId} {ty pos af gd} {f : FuncId} {fv : V} {caps vals args : List V} {ret : V} (hf : opd C.G (look ρ) fo = some fv) (hx : fv = .clo f caps ∨ (fv = .d (.fn f) ∧ caps = []))
    (ha : opdL C.G (look ρ) as.toList = some vals) (hle : VLes vals args) (hev : Ev P C.G f (args ++ caps) [] ret [])
    (hg : guardIs ops (look ρ) ⟨dst, .call { callee := .value fo, args := as, argTypes := ts }, ty, pos, af, gd⟩ true) (hN : dstOk ⟨dst, .call { callee := .value fo, args := as, argTypes := ts }, ty, pos, af, gd⟩ C.N = true)
    (h : Tr P C ops rest ⟨putL ρ dst ret, σ, ls⟩ (fun fs x' => K (⟨Oper.looksAt ops ⟨dst, .call { callee := .value fo, args := as, argTypes := ts }, ty, pos, af, gd⟩, dst, [], []⟩ :: fs) x')) : Tr P C ops (⟨dst, .call { callee := .value fo, args := as, argTypes := ts }, ty, pos, af, gd⟩ :: rest) ⟨ρ, σ, ls⟩ K :=
  t_call rfl hf hx (Opds.ofL ha) hle hev hg hN h
/-- One object is handed over. -/
theorem s_call1 {dst : Option Nat} {fo : Operand} {as : Array Operand} {ts : Array TypeId} {ty pos af gd} {f : FuncId} {fv : V} {caps vals args : List V} {ret : V} {l : Nat} {o o' : O} (hf : opd C.G (look ρ) fo = some fv) (hx : fv = .clo f caps ∨ (fv = .d (.fn f) ∧ caps = []))
    (ha : opdL C.G (look ρ) as.toList = some vals) (hle : VLes vals args) (hev : Ev P C.G f (args ++ caps) [(l, o)] ret [(l, o')]) (ho : lookO σ l = some o)
    (hg : guardIs ops (look ρ) ⟨dst, .call { callee := .value fo, args := as, argTypes := ts }, ty, pos, af, gd⟩ true) (hN : dstOk ⟨dst, .call { callee := .value fo, args := as, argTypes := ts }, ty, pos, af, gd⟩ C.N = true)
    (h : Tr P C ops rest ⟨putL ρ dst ret, (l, some o') :: σ, l :: ls⟩ (fun fs x' => K (⟨Oper.looksAt ops ⟨dst, .call { callee := .value fo, args := as, argTypes := ts }, ty, pos, af, gd⟩, dst, [l], [l]⟩ :: fs) x')) : Tr P C ops (⟨dst, .call { callee := .value fo, args := as, argTypes := ts }, ty, pos, af, gd⟩ :: rest) ⟨ρ, σ, ls⟩ K := by
  refine tr_op hg hN (vals := fv :: vals) (show Opds C.G (look ρ) (#[fo] ++ as).toList (fv :: vals) from by rw [Array.toList_append]; exact ⟨_, _, rfl, hf, Opds.ofL ha⟩) (fp := [(l, o)]) (wr := [(l, some o')]) ?_
    (fun l' o1 hm => by simp at hm; obtain ⟨rfl, rfl⟩ := hm; exact ho) (fun l' h1 h2 => by simp at h1 h2; exact absurd h1 h2) h
  have hop := AOp.less (aop_call (o := ⟨dst, .call { callee := .value fo, args := as, argTypes := ts }, ty, pos, af, gd⟩) rfl rfl hx hev) (.cons VLe.rfl hle) (VLe.rfl (x := ret))
  intro E M ι H w a next Q hi hG hfp hvs hfr hk
  refine hop E M ι H w a next Q hi hG hfp hvs (fun l' h1 h2 => ?_) (fun M' ι' w' cv k1 k2 k3 k4 => hk M' ι' w' cv k1 (fun l' h1 => k2 l' (by simpa [wrOf] using h1)) ?_ k4)
  · simp [wrOf] at h1 h2; exact absurd h1 h2
  · have e : H.upd (wrOf [(l, o)] [(l, o')]) = H.upd [(l, some o')] := funext fun k => by
      simp only [wrOf, List.cons_append, List.nil_append, List.map_cons, List.map_nil, Sto.upd, look_cons, if_true]
      split <;> rfl
    rw [e] at k3; exact k3
/-- An object is made. -/
theorem s_callN {dst : Option Nat} {fo : Operand} {as : Array Operand} {ts : Array TypeId} {ty pos af gd} {f : FuncId} {fv : V} {caps vals args : List V} {ret : V} {l : Nat} {o' : O} (hf : opd C.G (look ρ) fo = some fv) (hx : fv = .clo f caps ∨ (fv = .d (.fn f) ∧ caps = []))
    (ha : opdL C.G (look ρ) as.toList = some vals) (hle : VLes vals args) (hev : Ev P C.G f (args ++ caps) [] ret [(l, o')]) (hl : memB l ls = false)
    (hg : guardIs ops (look ρ) ⟨dst, .call { callee := .value fo, args := as, argTypes := ts }, ty, pos, af, gd⟩ true) (hN : dstOk ⟨dst, .call { callee := .value fo, args := as, argTypes := ts }, ty, pos, af, gd⟩ C.N = true)
    (h : Tr P C ops rest ⟨putL ρ dst ret, (l, some o') :: σ, l :: ls⟩ (fun fs x' => K (⟨Oper.looksAt ops ⟨dst, .call { callee := .value fo, args := as, argTypes := ts }, ty, pos, af, gd⟩, dst, [], [l]⟩ :: fs) x')) : Tr P C ops (⟨dst, .call { callee := .value fo, args := as, argTypes := ts }, ty, pos, af, gd⟩ :: rest) ⟨ρ, σ, ls⟩ K := by
  refine tr_op hg hN (vals := fv :: vals) (show Opds C.G (look ρ) (#[fo] ++ as).toList (fv :: vals) from by rw [Array.toList_append]; exact ⟨_, _, rfl, hf, Opds.ofL ha⟩) (fp := []) (wr := [(l, some o')]) ?_
    (fun l' o1 hm => by cases hm) (fun l' h1 h2 => by simp at h1; subst h1; exact not_mem_of hl) h
  have hop := AOp.less (aop_call (o := ⟨dst, .call { callee := .value fo, args := as, argTypes := ts }, ty, pos, af, gd⟩) rfl rfl hx hev) (.cons VLe.rfl hle) (VLe.rfl (x := ret))
  intro E M ι H w a next Q hi hG hfp hvs hfr hk
  refine hop E M ι H w a next Q hi hG hfp hvs (fun l' h1 h2 => hfr l' (by simpa [wrOf] using h1) h2) (fun M' ι' w' cv k1 k2 k3 k4 => hk M' ι' w' cv k1 (fun l' h1 => k2 l' (by simpa [wrOf] using h1)) ?_ k4)
  have e : H.upd (wrOf [] [(l, o')]) = H.upd [(l, some o')] := funext fun k => by
    simp only [wrOf, List.nil_append, List.map_cons, List.map_nil, Sto.upd, look_cons, if_true]
  rw [e] at k3; exact k3

theorem i64_succ {i : Nat} (h : i < 9000000000000000000) : IntKind.i64.wrap ((i : Int) + 1) = ((i + 1 : Nat) : Int) := by
  rw [IntWalk.i64_in _ (by omega)]; omega

/-- A loop over the places of a slice: 'for i, x := range xs'. -/
theorem ac_range {B0 B1 rc ri ti tn tc tp : Nat} {ty1 ty2 ty3 ty4 ty5 ty6 ty7 : TypeId} {p1 p2 p3 : String} {a1 a2 a3 : Array Edge} {body : Code} (hm : P.follows .mixedOrders = true) {st : A} (n : Nat) (ρf : Nat → List (Nat × V)) (σf : Nat → List (Nat × Option O)) (lf : Nat → List Nat) (I : Nat → Prop)
    (hI : I 0) (h0 : Weak C st ⟨(ti, .d (.int .i64 0)) :: (tn, .d (.int .i64 n)) :: ρf 0, σf 0, lf 0⟩) (hn : n < 9000000000000000000) (hd : (Nat.blt tc C.N && Nat.blt tp C.N && Nat.blt ti C.N && !Nat.beq tn ti && !Nat.beq tc ti && !Nat.beq tc tn && !Nat.beq tp ti && !Nat.beq tp tn) = true)
    (hfree : ∀ i, look (ρf i) tc = none ∧ look (ρf i) tp = none)
    (hbody : ∀ i, i < n → I i → AC P C body ⟨(ti, .d (.int .i64 i)) :: (tn, .d (.int .i64 n)) :: ρf i, σf i, lf i⟩ (blockQ B1 (thenQ (fun s => I (i + 1) ∧ Weak C s ⟨(ti, .d (.int .i64 i)) :: (tn, .d (.int .i64 n)) :: ρf (i + 1), σf (i + 1), lf (i + 1)⟩) (blockQ B0 Q))))
    (hend : I n → Q .normal ⟨(tc, .d (.bool false)) :: (ti, .d (.int .i64 n)) :: (tn, .d (.int .i64 n)) :: ρf n, σf n, lf n⟩) :
    AC P C (.block B0 (.loop (.seq (.region rc #[⟨some tc, .binOp .lss ty1 (.tmp ti) (.tmp tn) ty2, ty3, p1, a1, none⟩] false) (.seq (.cond (.tmp tc) .skip (.exit B0)) (.seq (.block B1 body)
      (.region ri #[⟨some tp, .binOp .add ty4 (.tmp ti) (.const (.int .i64 1)) ty5, ty6, p2, a2, none⟩, ⟨some ti, .move (.tmp tp), ty7, p3, a3, none⟩] false)))))) st Q := by
  simp only [Bool.and_eq_true, Bool.not_eq_true'] at hd
  obtain ⟨⟨⟨⟨⟨⟨⟨d1, d2⟩, d3⟩, d4⟩, d5⟩, d6⟩, d7⟩, d8⟩ := hd
  have ne : ∀ {a b : Nat}, Nat.beq a b = false → a ≠ b := fun h e => by subst e; rw [Nat.beq_refl] at h; cases h
  have e4 := ne d4; have e5 := ne d5; have e6 := ne d6; have e7 := ne d7; have e8 := ne d8
  refine ac_block (ac_loop (fun i : { i : Nat // i ≤ n ∧ I i } => ⟨(ti, .d (.int .i64 i.1)) :: (tn, .d (.int .i64 n)) :: ρf i.1, σf i.1, lf i.1⟩) (fun i => n - i.1) ⟨0, Nat.zero_le _, hI⟩ h0 ?_)
  rintro ⟨i, hi, hIi⟩
  dsimp only
  refine ac_ts hm ?_
  refine t_bin (k := .i64) (i := i) (j := n) (by simp [opd, look_cons]) (by simp [opd, look_cons, e4, Ne.symm e4]) .lss rfl (by simpa [dstOk] using d1) ?_
  refine tr_nil ?_
  refine ac_seq ?_
  refine ac_cond (b := decide ((i : Int) < n)) (by show look ((tc, _) :: _) tc = _; rw [look_cons, if_pos rfl]) (fun hb => ?_) (fun hb => ?_)
  · have hlt : i < n := by simpa using hb
    refine ac_skip ?_
    change AC _ _ _ _ _
    refine ac_seq (ac_block ?_)
    -- the body, from the state without the test's temporary
    obtain ⟨f1, f2⟩ := hfree i
    have w0 : Weak C ⟨putL ((ti, .d (.int .i64 i)) :: (tn, .d (.int .i64 n)) :: ρf i) (some tc) (.d (.bool (decide ((i : Int) < n)))), σf i, lf i⟩ ⟨(ti, .d (.int .i64 i)) :: (tn, .d (.int .i64 n)) :: ρf i, σf i, lf i⟩ := by
      intro M ι a w hs
      refine ⟨M, ι, ⟨hs.inv, hs.g, fun t v hv => hs.tm t v ?_, hs.lab, hs.sz, hs.df, hs.kept⟩⟩
      simp only [putL, look_cons] at hv ⊢
      by_cases e : tc = t
      · subst e
        rw [if_neg (fun x => e5 x.symm), if_neg (fun x => e6 x.symm)] at hv
        rw [f1] at hv; cases hv
      · rw [if_neg e]; exact hv
    refine ac_weak w0 (ac_mono (hbody i hlt hIi) ?_)
    intro e s hq
    have step : (I (i + 1) ∧ Weak C s ⟨(ti, .d (.int .i64 i)) :: (tn, .d (.int .i64 n)) :: ρf (i + 1), σf (i + 1), lf (i + 1)⟩) → AC P C (.region ri #[⟨some tp, .binOp .add ty4 (.tmp ti) (.const (.int .i64 1)) ty5, ty6, p2, a2, none⟩, ⟨some ti, .move (.tmp tp), ty7, p3, a3, none⟩] false) s
        (thenQ (fun s => ∃ y : { i : Nat // i ≤ n ∧ I i }, n - y.1 < n - i ∧ Weak C s ⟨(ti, .d (.int .i64 y.1)) :: (tn, .d (.int .i64 n)) :: ρf y.1, σf y.1, lf y.1⟩) (blockQ B0 Q)) := by
      rintro ⟨hI1, hw⟩
      refine ac_weak hw (ac_t hm ?_)
      refine t_bin (k := .i64) (i := i) (j := 1) (by simp [opd, look_cons]) rfl .add rfl (by simpa [dstOk] using d2) ?_
      refine t_move (v := .d (.int .i64 (IntKind.i64.wrap ((i : Int) + 1)))) (by show look ((tp, _) :: _) tp = _; rw [look_cons, if_pos rfl]) rfl (by simpa [dstOk] using d3) ?_
      refine tr_nil ?_
      refine ⟨⟨i + 1, hlt, hI1⟩, by show n - (i + 1) < n - i; omega, ?_⟩
      obtain ⟨g1, g2⟩ := hfree (i + 1)
      intro M ι a w hs
      refine ⟨M, ι, ⟨hs.inv, hs.g, fun t v hv => hs.tm t v ?_, hs.lab, hs.sz, hs.df, hs.kept⟩⟩
      simp only [putL, look_cons] at hv ⊢
      by_cases e1 : ti = t
      · rw [if_pos e1] at hv ⊢
        rw [i64_succ (by omega)]; exact hv
      · rw [if_neg e1] at hv ⊢
        by_cases e2 : tp = t
        · subst e2
          rw [if_neg (fun x => e8 x.symm)] at hv
          rw [g2] at hv; cases hv
        · rw [if_neg e2, if_neg e1]; exact hv
    cases e with
    | normal => exact step hq
    | exit k =>
      simp only [blockQ] at hq ⊢
      by_cases hk : k = B1
      · rw [if_pos hk] at hq ⊢; exact step hq
      · rw [if_neg hk] at hq ⊢
        exact hq
    | _ => exact hq
  · have hge : i = n := by
      have : ¬ ((i : Int) < n) := by simpa using hb
      omega
    subst hge
    refine ac_exit ?_
    have hq := hend hIi
    rw [← hb] at hq
    simp only [thenQ, blockQ, if_true]
    exact hq

theorem retAgg {t n : Nat} {vs : List V} (h : Ty P t n true) (hn : vs.length = n) : ∃ i d, P.info? t = some i ∧ P.underlying t = some d ∧ i.size = vs.length ∧ aggD d = true ∧ V.agg vs = V.agg vs := by
  obtain ⟨⟨i, h1, h2⟩, ⟨d, h3, h4⟩⟩ := h
  exact ⟨i, d, h1, h3, by omega, h4, rfl⟩
theorem retOne {t n : Nat} {v : V} (h : Ty P t n false) : ∃ d, P.underlying t = some d ∧ aggD d = false ∧ [v] = [v] := by
  obtain ⟨⟨i, h1, h2⟩, ⟨d, h3, h4⟩⟩ := h
  exact ⟨d, h3, h4, rfl⟩
end
end Go.AM
set_option linter.unusedVariables false
set_option linter.unusedSimpArgs false
namespace Go.AM
open Go Go.RowKit
section
variable {P : Program} {C : Ctx} {ops : Array Oper} {rest : List Oper} {ρ : List (Nat × V)} {σ : List (Nat × Option O)} {ls : List Nat} {K : List FP → A → Prop} {Q : Exit → A → Prop} {st : A}

theorem tr_bool {t : Nat} {e : Bool} (h1 : e = true → Tr P C ops rest ⟨(t, .d (.bool true)) :: ρ, σ, ls⟩ K) (h2 : e = false → Tr P C ops rest ⟨(t, .d (.bool false)) :: ρ, σ, ls⟩ K) : Tr P C ops rest ⟨(t, .d (.bool e)) :: ρ, σ, ls⟩ K := by
  cases e with
  | true => exact h1 rfl
  | false => exact h2 rfl
theorem tr_known {t : Nat} {e e' : Bool} (h : e = e') (k : Tr P C ops rest ⟨(t, .d (.bool e')) :: ρ, σ, ls⟩ K) : Tr P C ops rest ⟨(t, .d (.bool e)) :: ρ, σ, ls⟩ K := by
  subst h; exact k
theorem ac_bool {c : Code} {t : Nat} {e : Bool} (h1 : e = true → AC P C c ⟨(t, .d (.bool true)) :: ρ, σ, ls⟩ Q) (h2 : e = false → AC P C c ⟨(t, .d (.bool false)) :: ρ, σ, ls⟩ Q) : AC P C c ⟨(t, .d (.bool e)) :: ρ, σ, ls⟩ Q := by
  cases e with
  | true => exact h1 rfl
  | false => exact h2 rfl
theorem ac_join {α : Type} {x y : Code} (J : α → A) (pr : α → Prop) (hx : AC P C x st (thenQ (fun s => ∃ a, pr a ∧ Weak C s (J a)) Q)) (hy : ∀ a, pr a → AC P C y (J a) Q) : AC P C (.seq x y) st Q := by
  refine ac_seq (ac_mono hx fun e s h => ?_)
  cases e with
  | normal =>
    obtain ⟨a, hp, hw⟩ := h
    exact ac_weak hw (hy a hp)
  | _ => exact h
theorem ac_while {c : Code} {α : Type} (I : α → A) (pr : α → Prop) (μ : α → Nat) (a0 : α) (hp : pr a0) (h0 : Weak C st (I a0))
    (h : ∀ a, pr a → AC P C c (I a) (thenQ (fun s => ∃ y, μ y < μ a ∧ pr y ∧ Weak C s (I y)) Q)) : AC P C (.loop c) st Q := by
  refine ac_loop (fun a : { a : α // pr a } => I a.1) (fun a => μ a.1) ⟨a0, hp⟩ h0 ?_
  rintro ⟨a, ha⟩
  refine ac_mono (h a ha) fun e s hq => ?_
  cases e with
  | normal =>
    obtain ⟨y, h1, h2, h3⟩ := hq
    exact ⟨⟨y, h2⟩, h1, h3⟩
  | _ => exact hq
end
def lookL (σ : List (Nat × Option O)) : List Nat → Option (List O)
  | [] => some []
  | l :: r => match lookO σ l, lookL σ r with
    | some o, some os => some (o :: os)
    | _, _ => none
theorem lookL_at {σ : List (Nat × Option O)} : ∀ {τ : List (Nat × O)}, lookL σ (τ.map (·.1)) = some (τ.map (·.2)) → ∀ l o, (l, o) ∈ τ → lookO σ l = some o
  | [], _, l, o, h => by cases h
  | (k, x) :: r, h, l, o, hm => by
    simp only [List.map_cons] at h
    unfold lookL at h
    split at h
    · rename_i o1 os h1 h2
      injection h with h
      injection h with e1 e2
      subst e1; subst e2
      rcases List.mem_cons.1 hm with e | hm
      · injection e with e1 e2; subst e1; subst e2; exact h1
      · exact lookL_at h2 l o hm
    · cases h
theorem upd_someO (H : Sto) (τ : List (Nat × O)) (l : Nat) : H.upd (someO τ) l = match look τ l with | some o => some o | none => H l := by
  induction τ with
  | nil => rfl
  | cons p r ih =>
    obtain ⟨k, o⟩ := p
    simp only [someO, List.map_cons, Sto.upd, look_cons]
    by_cases e : l = k
    · subst e; simp
    · rw [if_neg e, if_neg (fun x => e x.symm)]; exact ih
def subK (xs ys : List (Nat × O)) : Bool := xs.all fun p => ys.any fun q => Nat.beq p.1 q.1
def freshK (xs ys : List (Nat × O)) (ls : List Nat) : Bool := ys.all fun q => (xs.any fun p => Nat.beq p.1 q.1) || !memB q.1 ls
theorem subK_at {xs ys : List (Nat × O)} (h : subK xs ys = true) {l : Nat} (hl : l ∈ xs.map (·.1)) : l ∈ ys.map (·.1) := by
  obtain ⟨p, hp, rfl⟩ := List.mem_map.1 hl
  obtain ⟨q, hq, e⟩ := List.any_eq_true.1 (List.all_eq_true.1 h p hp)
  exact List.mem_map.2 ⟨q, hq, (Nat.eq_of_beq_eq_true e).symm⟩
/-- A call that is handed objects, which it turns or makes. -/
theorem s_callS {P : Program} {C : Ctx} {ops : Array Oper} {rest : List Oper} {ρ : List (Nat × V)} {σ : List (Nat × Option O)} {ls : List Nat} {K : List FP → A → Prop}
    {dst : Option Nat} {fo : Operand} {as : Array Operand} {ts : Array TypeId} {ty pos af gd} {f : FuncId} {fv : V} {caps vals args : List V} {ret : V} {τ τ' : List (Nat × O)} (hf : opd C.G (look ρ) fo = some fv) (hx : fv = .clo f caps ∨ (fv = .d (.fn f) ∧ caps = []))
    (ha : opdL C.G (look ρ) as.toList = some vals) (hle : VLes vals args) (hev : Ev P C.G f (args ++ caps) τ ret τ') (hσ : lookL σ (τ.map (·.1)) = some (τ.map (·.2))) (hk : subK τ τ' = true) (hfr : freshK τ τ' ls = true)
    (hg : guardIs ops (look ρ) ⟨dst, .call { callee := .value fo, args := as, argTypes := ts }, ty, pos, af, gd⟩ true) (hN : dstOk ⟨dst, .call { callee := .value fo, args := as, argTypes := ts }, ty, pos, af, gd⟩ C.N = true)
    (h : Tr P C ops rest ⟨putL ρ dst ret, someO τ' ++ σ, τ'.map (·.1) ++ ls⟩ (fun fs x' => K (⟨Oper.looksAt ops ⟨dst, .call { callee := .value fo, args := as, argTypes := ts }, ty, pos, af, gd⟩, dst, τ.map (·.1), τ'.map (·.1)⟩ :: fs) x')) : Tr P C ops (⟨dst, .call { callee := .value fo, args := as, argTypes := ts }, ty, pos, af, gd⟩ :: rest) ⟨ρ, σ, ls⟩ K := by
  have hkeys : (someO τ').map (·.1) = τ'.map (·.1) := by simp [someO, Function.comp_def]
  rw [← hkeys] at h
  refine tr_op hg hN (vals := fv :: vals) (show Opds C.G (look ρ) (#[fo] ++ as).toList (fv :: vals) from by rw [Array.toList_append]; exact ⟨_, _, rfl, hf, Opds.ofL ha⟩) (fp := τ) (wr := someO τ') ?_
    (lookL_at hσ) (fun l h1 h2 => ?_) h
  · have hop := AOp.less (aop_call (o := ⟨dst, .call { callee := .value fo, args := as, argTypes := ts }, ty, pos, af, gd⟩) rfl rfl hx hev) (.cons VLe.rfl hle) (VLe.rfl (x := ret))
    have hkw : ∀ l, l ∈ (wrOf τ τ').map (·.1) ↔ l ∈ (someO τ').map (·.1) := fun l => by
      rw [hkeys]
      simp only [wrOf, List.map_map, List.mem_map, Function.comp_def, List.mem_append]
      constructor
      · rintro ⟨p, hp | hp, rfl⟩
        · exact List.mem_map.1 (subK_at hk (List.mem_map.2 ⟨p, hp, rfl⟩))
        · exact ⟨p, hp, rfl⟩
      · rintro ⟨p, hp, rfl⟩
        exact ⟨p, .inr hp, rfl⟩
    intro E M ι H w a next Q hi hG hfp hvs hfr hk'
    refine hop E M ι H w a next Q hi hG hfp hvs (fun l h1 h2 => hfr l ((hkw l).1 h1) h2) (fun M' ι' w' cv k1 k2 k3 k4 => hk' M' ι' w' cv k1 (fun l h1 => k2 l (fun h => h1 ((hkw l).1 h))) ?_ k4)
    have e : H.upd (wrOf τ τ') = H.upd (someO τ') := funext fun l => by
      rw [upd_someO]
      by_cases hl : l ∈ (τ ++ τ').map (·.1)
      · rw [wrOf, upd_map H (look τ') (τ ++ τ') l hl]
        have : l ∈ τ'.map (·.1) := by
          rw [List.map_append, List.mem_append] at hl
          exact hl.elim (subK_at hk) id
        obtain ⟨o, ho⟩ := look_some this
        rw [ho]
      · rw [Sto.upd_not H _ _ (by simpa [wrOf, Function.comp_def] using hl)]
        rw [List.map_append, List.mem_append, not_or] at hl
        rw [look_none hl.2]
    rw [e] at k3; exact k3
  · rw [hkeys] at h1
    obtain ⟨q, hq, rfl⟩ := List.mem_map.1 h1
    have := List.all_eq_true.1 hfr q hq
    rw [Bool.or_eq_true] at this
    rcases this with h3 | h3
    · obtain ⟨p, hp, e⟩ := List.any_eq_true.1 h3
      exact absurd (List.mem_map.2 ⟨p, hp, Nat.eq_of_beq_eq_true e⟩) h2
    · exact not_mem_of (by simpa using h3)
/-- The same for a function that is named. -/
theorem s_callF {P : Program} {C : Ctx} {ops : Array Oper} {rest : List Oper} {ρ : List (Nat × V)} {σ : List (Nat × Option O)} {ls : List Nat} {K : List FP → A → Prop}
    {dst : Option Nat} {f : FuncId} {as : Array Operand} {ts : Array TypeId} {ty pos af gd} {vals args : List V} {ret : V}
    (ha : opdL C.G (look ρ) as.toList = some vals) (hle : VLes vals args) (hev : Ev P C.G f args [] ret [])
    (hg : guardIs ops (look ρ) ⟨dst, .call { callee := .value (.func f), args := as, argTypes := ts }, ty, pos, af, gd⟩ true) (hN : dstOk ⟨dst, .call { callee := .value (.func f), args := as, argTypes := ts }, ty, pos, af, gd⟩ C.N = true)
    (h : Tr P C ops rest ⟨putL ρ dst ret, σ, ls⟩ (fun fs x' => K (⟨Oper.looksAt ops ⟨dst, .call { callee := .value (.func f), args := as, argTypes := ts }, ty, pos, af, gd⟩, dst, [], []⟩ :: fs) x')) : Tr P C ops (⟨dst, .call { callee := .value (.func f), args := as, argTypes := ts }, ty, pos, af, gd⟩ :: rest) ⟨ρ, σ, ls⟩ K :=
  s_call (caps := []) rfl (.inr ⟨rfl, rfl⟩) ha hle (by rw [List.append_nil]; exact hev) hg hN h
theorem s_callSF {P : Program} {C : Ctx} {ops : Array Oper} {rest : List Oper} {ρ : List (Nat × V)} {σ : List (Nat × Option O)} {ls : List Nat} {K : List FP → A → Prop}
    {dst : Option Nat} {f : FuncId} {as : Array Operand} {ts : Array TypeId} {ty pos af gd} {vals args : List V} {ret : V} {τ τ' : List (Nat × O)}
    (ha : opdL C.G (look ρ) as.toList = some vals) (hle : VLes vals args) (hev : Ev P C.G f args τ ret τ') (hσ : lookL σ (τ.map (·.1)) = some (τ.map (·.2))) (hk : subK τ τ' = true) (hfr : freshK τ τ' ls = true)
    (hg : guardIs ops (look ρ) ⟨dst, .call { callee := .value (.func f), args := as, argTypes := ts }, ty, pos, af, gd⟩ true) (hN : dstOk ⟨dst, .call { callee := .value (.func f), args := as, argTypes := ts }, ty, pos, af, gd⟩ C.N = true)
    (h : Tr P C ops rest ⟨putL ρ dst ret, someO τ' ++ σ, τ'.map (·.1) ++ ls⟩ (fun fs x' => K (⟨Oper.looksAt ops ⟨dst, .call { callee := .value (.func f), args := as, argTypes := ts }, ty, pos, af, gd⟩, dst, τ.map (·.1), τ'.map (·.1)⟩ :: fs) x')) : Tr P C ops (⟨dst, .call { callee := .value (.func f), args := as, argTypes := ts }, ty, pos, af, gd⟩ :: rest) ⟨ρ, σ, ls⟩ K :=
  s_callS (caps := []) rfl (.inr ⟨rfl, rfl⟩) ha hle (by rw [List.append_nil]; exact hev) hσ hk hfr hg hN h
def SigTo (σ : List (Nat × Option O)) : List (Nat × O) → Prop
  | [] => True
  | (l, o) :: r => (∃ o', lookO σ l = some o' ∧ OLe o' o) ∧ SigTo σ r
theorem sigTo_at {σ : List (Nat × Option O)} : ∀ {σ' : List (Nat × O)}, SigTo σ σ' → ∀ l o, look σ' l = some o → ∃ o', lookO σ l = some o' ∧ OLe o' o
  | [], _, l, o, h => by cases h
  | (k, x) :: r, h, l, o, hl => by
    rw [look_cons] at hl
    split at hl
    · rename_i e; subst e; injection hl with hl; subst hl; exact h.1
    · exact sigTo_at h.2 l o hl
theorem VLe.boolE {a b : Bool} (h : a = b) : VLe (.d (.bool a)) (.d (.bool b)) := by subst h; exact .rfl
theorem VLe.intE {k : IntKind} {a b : Int} (h : a = b) : VLe (.d (.int k a)) (.d (.int k b)) := by subst h; exact .rfl
theorem VLe.sliceE {a b : List (List D)} (h : a = b) : VLe (.d (.slice a)) (.d (.slice b)) := by subst h; exact .rfl
theorem VLe.ownE {a b : List (List D)} {l : Nat} (h : a = b) : VLe (.own a l) (.d (.slice b)) := by subst h; exact .own
theorem VLe.ownO {a b : List (List D)} {l : Nat} (h : a = b) : VLe (.own a l) (.own b l) := by subst h; exact .rfl
theorem VLe.fullE {a b : List (List D)} (h : a = b) : VLe (.full a) (.d (.slice b)) := by subst h; exact .full
theorem VLe.nilsE {b : List (List D)} (h : b = []) : VLe (.d .nils) (.d (.slice b)) := by subst h; exact .nils
theorem VLe.dE {a b : D} (h : a = b) : VLe (.d a) (.d b) := by subst h; exact .rfl
def dOne : V → Option D
  | .d x => some x
  | .own es _ => some (.slice es)
  | .full es => some (.slice es)
  | _ => none
theorem dOne_le {v : V} {x : D} (h : dOne v = some x) : VLe v (.d x) := by
  cases v <;> simp only [dOne, Option.some.injEq] at h <;> first | (subst h; first | exact .rfl | exact .own | exact .full) | cases h
def dL : List V → Option (List D)
  | [] => some []
  | v :: r => match dOne v, dL r with
    | some x, some xs => some (x :: xs)
    | _, _ => none
theorem dL_le : ∀ {vs : List V} {ds : List D}, dL vs = some ds → VLes vs (ds.map V.d)
  | [], ds, h => by simp only [dL, Option.some.injEq] at h; subst h; exact .nil
  | v :: r, ds, h => by
    unfold dL at h
    split at h
    · rename_i x xs h1 h2
      injection h with h; subst h
      exact .cons (dOne_le h1) (dL_le h2)
    · cases h
def elemD : V → Option (List D)
  | .agg vs => dL vs
  | .d x => some [x]
  | .own es _ => some [.slice es]
  | .full es => some [.slice es]
  | _ => none
theorem elemD_ok {v : V} {e : List D} (h : elemD v = some e) : Elem v e := by
  cases v <;> simp only [elemD, Option.some.injEq] at h
  case agg vs => exact .agg (dL_le h)
  case d x => subst h; exact .d
  case own es l => subst h; exact .slice .own
  case full es => subst h; exact .slice .full
  all_goals cases h
def elemsL : List V → Option (List (List D))
  | [] => some []
  | v :: r => match elemD v, elemsL r with
    | some x, some xs => some (x :: xs)
    | _, _ => none
theorem Elems.ofL : ∀ {vs : List V} {es : List (List D)}, elemsL vs = some es → Elems vs es
  | [], es, h => by simp only [elemsL, Option.some.injEq] at h; subst h; exact .nil
  | v :: r, es, h => by
    unfold elemsL at h
    split at h
    · rename_i x xs h1 h2
      injection h with h; subst h
      exact .cons (elemD_ok h1) (Elems.ofL h2)
    · cases h
theorem OLe.row {n m sz e : Nat} (h : n = m) : OLe (.row n sz e) (.row m sz e) := by subst h; exact .rfl
theorem i64_id {x : Int} (h1 : -9223372036854775808 ≤ x) (h2 : x < 9223372036854775808) : IntKind.i64.wrap x = x := IntWalk.i64_in x (by omega)
end Go.AM

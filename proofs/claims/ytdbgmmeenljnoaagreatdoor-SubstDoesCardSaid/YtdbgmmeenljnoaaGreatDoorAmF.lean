/-
  The operations, one law each (first part: what needs no memory, and the objects' cells).
  The operations, second part: stores, literals, slices, append, calls.
-/
import Derived.Test.YtdbgmmeenljnoaaGreatDoorAmD
import Derived.Deep.AppendSrc
set_option linter.unusedVariables false
set_option linter.unusedSimpArgs false
namespace Go.AM
open Go Go.RowKit

/-! ### Facts on types, asked of the loaded program -/
def tyB (P : Program) (t n : Nat) (b : Bool) : Bool :=
  match P.info? t, P.underlying t with
  | some i, some d => Nat.beq i.size n && (aggD d == b)
  | _, _ => false
structure Ty (P : Program) (t n : Nat) (b : Bool) : Prop where
  info : ∃ i, P.info? t = some i ∧ i.size = n
  und : ∃ d, P.underlying t = some d ∧ aggD d = b
theorem Ty.of {P : Program} {t n : Nat} {b : Bool} (h : tyB P t n b = true) : Ty P t n b := by
  unfold tyB at h
  split at h
  · rename_i i d hi hd
    simp only [Bool.and_eq_true, beq_iff_eq] at h
    exact ⟨⟨i, hi, Nat.eq_of_beq_eq_true h.1⟩, ⟨d, hd, h.2⟩⟩
  · cases h
def fldB (P : Program) (t i off : Nat) : Bool :=
  match P.underlying t with
  | some (.struct fs) => match fs[i]? with
    | some f => Nat.beq f.offset off && (match P.info? f.type with | some j => Nat.blt 0 j.size | none => false)
    | none => false
  | _ => false
structure Fld (P : Program) (t i off : Nat) : Prop where
  out : ∃ fs f j, P.underlying t = some (.struct fs) ∧ fs[i]? = some f ∧ f.offset = off ∧ P.info? f.type = some j ∧ 0 < j.size
theorem Fld.of {P : Program} {t i off : Nat} (h : fldB P t i off = true) : Fld P t i off := by
  unfold fldB at h
  split at h
  · rename_i fs hfs
    split at h
    · rename_i f hf
      simp only [Bool.and_eq_true] at h
      obtain ⟨h1, h2⟩ := h
      split at h2
      · rename_i j hj
        exact ⟨fs, f, j, hfs, hf, Nat.eq_of_beq_eq_true h1, hj, by simpa [Nat.blt_eq] using h2⟩
      · cases h2
    · cases h
  · cases h
def sliB (P : Program) (t e n bytes : Nat) : Bool :=
  match P.underlying t, P.info? e with
  | some (.slice e'), some i => Nat.beq e' e && Nat.beq i.size n && Nat.beq i.bytes bytes && Nat.blt 0 n && (match i.zero with | some z => Nat.beq z.cells.size n | none => false)
  | _, _ => false
structure Sli (P : Program) (t e n bytes : Nat) : Prop where
  und : P.underlying t = some (.slice e)
  info : ∃ i z, P.info? e = some i ∧ i.size = n ∧ i.bytes = bytes ∧ i.zero = some z ∧ z.cells.size = n
  pos : 0 < n
theorem Sli.of {P : Program} {t e n bytes : Nat} (h : sliB P t e n bytes = true) : Sli P t e n bytes := by
  unfold sliB at h
  split at h
  · rename_i e' i he hi
    simp only [Bool.and_eq_true] at h
    obtain ⟨⟨⟨⟨h1, h2⟩, h3⟩, h4⟩, h5⟩ := h
    have h1 := Nat.eq_of_beq_eq_true h1
    subst h1
    split at h5
    · rename_i z hz
      exact ⟨he, ⟨i, z, hi, Nat.eq_of_beq_eq_true h2, Nat.eq_of_beq_eq_true h3, hz, Nat.eq_of_beq_eq_true h5⟩, by simpa [Nat.blt_eq] using h4⟩
    · cases h5
  · cases h
/-- A type's zero value, as data. -/
structure Zer (P : Program) (t : Nat) (zs : List D) : Prop where
  out : ∃ i z, P.info? t = some i ∧ i.zero = some z ∧ ∀ M, RepVs M (fun _ => none) (zs.map V.d) z.cells.toList
def zeroD : Value → Option D
  | .bool b => some (.bool b)
  | .int k n => some (.int k n)
  | .string s => some (.str s)
  | .pointer none => some .nilPtr
  | .slice none 0 0 => some .nils
  | .nilFunc => some .nilFunc
  | .nilIface => some .nilIface
  | .map none => some .nilMap
  | _ => none
theorem zeroD_rep {M : Mem} {v : Value} {x : D} (h : zeroD v = some x) : RepD M x v := by
  unfold zeroD at h
  split at h <;> first | (injection h with h; subst h; simp [RepD]) | cases h
def zeroDs : List Value → Option (List D)
  | [] => some []
  | v :: r => match zeroD v, zeroDs r with
    | some x, some xs => some (x :: xs)
    | _, _ => none
theorem zeroDs_rep {M : Mem} {ι : Env} : ∀ {l : List Value} {xs : List D}, zeroDs l = some xs → RepVs M ι (xs.map V.d) l
  | [], xs, h => by simp only [zeroDs, Option.some.injEq] at h; subst h; simp [RepVs]
  | v :: r, xs, h => by
    unfold zeroDs at h
    split at h
    · rename_i x ys h1 h2
      injection h with h; subst h
      simp only [List.map_cons, RepVs, RepV]
      exact ⟨v, r, rfl, zeroD_rep h1, zeroDs_rep h2⟩
    · cases h
theorem Zer.of {P : Program} {t : Nat} {zs : List D} (h : (match P.info? t with | some i => (match i.zero with | some z => zeroDs z.cells.toList | none => none) | none => none) = some zs) : Zer P t zs := by
  split at h
  · rename_i i hi
    split at h
    · rename_i z hz
      exact ⟨i, z, hi, hz, fun M => zeroDs_rep h⟩
    · cases h
  · cases h
theorem Zer.rep {P : Program} {t : Nat} {zs : List D} (h : Zer P t zs) : ∃ i z, P.info? t = some i ∧ i.zero = some z ∧ ∀ M ι, RepVs M ι (zs.map V.d) z.cells.toList := by
  obtain ⟨i, z, h1, h2, h3⟩ := h.out
  refine ⟨i, z, h1, h2, fun M ι => RepVs.on (S := []) (fun l hl => by simp at hl) _ _ ?_ (h3 M)⟩
  induction zs with
  | nil => rfl
  | cons x xs ih => simp [V.onAll, V.on] at ih ⊢; clear ih h1 h2 h3 h; induction xs with | nil => rfl | cons y ys ih => simp [V.onAll, V.on, ih]

section
variable {P : Program} {C : Ctx} {ops : Array Oper} {rest : List Oper} {ρ : List (Nat × V)} {σ : List (Nat × Option O)} {ls : List Nat} {K : List FP → A → Prop}

def putL (ρ : List (Nat × V)) (d : Option Nat) (v : V) : List (Nat × V) :=
  match d with
  | some d => (d, v) :: ρ
  | none => ρ

def dstOk (o : Oper) (N : Nat) : Bool :=
  match o.dst with
  | some d => Nat.blt d N
  | none => true
theorem dstOk_lt {o : Oper} {N : Nat} (h : dstOk o N = true) : ∀ d, o.dst = some d → d < N := fun d hd => by
  unfold dstOk at h
  rw [hd] at h
  simpa [Nat.blt_eq] using h

def memB (l : Nat) : List Nat → Bool
  | [] => false
  | k :: r => Nat.beq k l || memB l r
theorem memB_of {l : Nat} : ∀ {xs : List Nat}, l ∈ xs → memB l xs = true
  | [], h => by cases h
  | k :: r, h => by
    rcases List.mem_cons.1 h with rfl | h
    · simp [memB, Nat.beq_refl]
    · simp [memB, memB_of h]
theorem not_mem_of {l : Nat} {xs : List Nat} (h : memB l xs = false) : l ∉ xs := fun hm => by rw [memB_of hm] at h; cases h

/-- A step in general. -/
theorem tr_op {o : Oper} {vals : List V} {fp : List (Nat × O)} {wr : List (Nat × Option O)} {v : V} (hg : guardIs ops (look ρ) o true) (hN : dstOk o C.N = true) (hops : Opds C.G (look ρ) o.op.operands.toList vals)
    (hop : AOp P C.G o vals fp wr v) (hfp : ∀ l o', (l, o') ∈ fp → lookO σ l = some o') (hfr : ∀ l, l ∈ wr.map (·.1) → l ∉ fp.map (·.1) → l ∉ ls)
    (h : Tr P C ops rest ⟨putL ρ o.dst v, wr ++ σ, wr.map (·.1) ++ ls⟩ (fun fs x => K (⟨o.looksAt ops, o.dst, fp.map (·.1), wr.map (·.1)⟩ :: fs) x)) : Tr P C ops (o :: rest) ⟨ρ, σ, ls⟩ K := by
  refine tr_cons ⟨o, vals, fp, wr, v⟩ rfl ⟨dstOk_lt hN, .inl ⟨hg, hops, hop, hfp, hfr⟩⟩ ?_
  exact h

/-- A step that is not taken. -/
theorem t_skip {o : Oper} (hg : guardIs ops (look ρ) o false) (hN : dstOk o C.N = true) (h : Tr P C ops rest ⟨putL ρ o.dst (.tup []), σ, ls⟩ (fun fs x => K (⟨o.looksAt ops, o.dst, [], []⟩ :: fs) x)) : Tr P C ops (o :: rest) ⟨ρ, σ, ls⟩ K := by
  refine tr_cons ⟨o, [], [], [], .tup []⟩ rfl ⟨dstOk_lt hN, .inr ⟨hg, rfl, rfl, rfl⟩⟩ ?_
  exact h

/-- A step that turns no object. -/
theorem tr_pure {o : Oper} {vals : List V} {v : V} (hg : guardIs ops (look ρ) o true) (hN : dstOk o C.N = true) (hops : Opds C.G (look ρ) o.op.operands.toList vals)
    (hop : AOp P C.G o vals [] [] v) (h : Tr P C ops rest ⟨putL ρ o.dst v, σ, ls⟩ (fun fs x => K (⟨o.looksAt ops, o.dst, [], []⟩ :: fs) x)) : Tr P C ops (o :: rest) ⟨ρ, σ, ls⟩ K :=
  tr_op hg hN hops hop (fun _ _ h => by cases h) (fun _ h => by cases h) h

theorem aop_value {G : Gl} {o : Oper} {vals : List V} {v : V} (h : ∀ M ι (a : Act) w, GOk G M → RepVs M ι vals (o.op.operands.toList.map a.eval) → ∃ cv, (execOp a.eval o).run P w = .ok (.value cv) w ∧ RepV M ι v cv) : AOp P G o vals [] [] v := by
  intro E M ι H w a next Q hi hG _ hvs _ hk
  obtain ⟨cv, h1, h2⟩ := h M ι a w hG hvs
  unfold Oper.wp
  rw [h1, Oper.upon_value]
  exact hk M ι w cv (Grow.refl _ _) (fun _ _ => rfl) hi h2

theorem t_move {dst : Option Nat} {x : Operand} {ty pos af gd v} (hx : opd C.G (look ρ) x = some v) (hg : guardIs ops (look ρ) ⟨dst, .move x, ty, pos, af, gd⟩ true) (hN : dstOk ⟨dst, .move x, ty, pos, af, gd⟩ C.N = true)
    (h : Tr P C ops rest ⟨putL ρ dst v, σ, ls⟩ (fun fs x' => K (⟨Oper.looksAt ops ⟨dst, .move x, ty, pos, af, gd⟩, dst, [], []⟩ :: fs) x')) : Tr P C ops (⟨dst, .move x, ty, pos, af, gd⟩ :: rest) ⟨ρ, σ, ls⟩ K := by
  refine tr_pure hg hN (vals := [v]) ⟨_, _, rfl, hx, rfl⟩ (aop_value fun M ι a w _ hvs => ?_) h
  simp only [Op.operands, List.map_cons, List.map_nil, RepVs] at hvs
  obtain ⟨c, r, e1, e2, _⟩ := hvs
  injection e1 with e1 _
  exact ⟨a.eval x, by simp [execOp], by rw [e1]; exact e2⟩
theorem t_assign {dst : Option Nat} {x : Operand} {ty pos af gd v} (hx : opd C.G (look ρ) x = some v) (hg : guardIs ops (look ρ) ⟨dst, .assign x, ty, pos, af, gd⟩ true) (hN : dstOk ⟨dst, .assign x, ty, pos, af, gd⟩ C.N = true)
    (h : Tr P C ops rest ⟨putL ρ dst v, σ, ls⟩ (fun fs x' => K (⟨Oper.looksAt ops ⟨dst, .assign x, ty, pos, af, gd⟩, dst, [], []⟩ :: fs) x')) : Tr P C ops (⟨dst, .assign x, ty, pos, af, gd⟩ :: rest) ⟨ρ, σ, ls⟩ K := by
  refine tr_pure hg hN (vals := [v]) ⟨_, _, rfl, hx, rfl⟩ (aop_value fun M ι a w _ hvs => ?_) h
  simp only [Op.operands, List.map_cons, List.map_nil, RepVs] at hvs
  obtain ⟨c, r, e1, e2, _⟩ := hvs
  injection e1 with e1 _
  exact ⟨a.eval x, by simp [execOp], by rw [e1]; exact e2⟩

/-- Operations of one operand, of two. -/
theorem tr_one {dst : Option Nat} {op : Op} {ty pos af gd} {x : Operand} {vx v : V} (hop : op.operands = #[x]) (hx : opd C.G (look ρ) x = some vx) (hg : guardIs ops (look ρ) ⟨dst, op, ty, pos, af, gd⟩ true) (hN : dstOk ⟨dst, op, ty, pos, af, gd⟩ C.N = true)
    (hrun : ∀ M ι (a : Act) w, GOk C.G M → RepV M ι vx (a.eval x) → ∃ cv, (execOp a.eval ⟨dst, op, ty, pos, af, gd⟩).run P w = .ok (.value cv) w ∧ RepV M ι v cv)
    (h : Tr P C ops rest ⟨putL ρ dst v, σ, ls⟩ (fun fs x' => K (⟨Oper.looksAt ops ⟨dst, op, ty, pos, af, gd⟩, dst, [], []⟩ :: fs) x')) : Tr P C ops (⟨dst, op, ty, pos, af, gd⟩ :: rest) ⟨ρ, σ, ls⟩ K := by
  refine tr_pure hg hN (vals := [vx]) (by simp only [hop]; exact ⟨_, _, rfl, hx, rfl⟩) (aop_value fun M ι a w hG hvs => ?_) h
  simp only [hop, List.map_cons, List.map_nil, RepVs] at hvs
  obtain ⟨c, r, e1, e2, _⟩ := hvs
  injection e1 with e1 _
  exact hrun M ι a w hG (by rw [e1]; exact e2)
theorem tr_two {dst : Option Nat} {op : Op} {ty pos af gd} {x y : Operand} {vx vy v : V} (hop : op.operands = #[x, y]) (hx : opd C.G (look ρ) x = some vx) (hy : opd C.G (look ρ) y = some vy) (hg : guardIs ops (look ρ) ⟨dst, op, ty, pos, af, gd⟩ true) (hN : dstOk ⟨dst, op, ty, pos, af, gd⟩ C.N = true)
    (hrun : ∀ M ι (a : Act) w, GOk C.G M → RepV M ι vx (a.eval x) → RepV M ι vy (a.eval y) → ∃ cv, (execOp a.eval ⟨dst, op, ty, pos, af, gd⟩).run P w = .ok (.value cv) w ∧ RepV M ι v cv)
    (h : Tr P C ops rest ⟨putL ρ dst v, σ, ls⟩ (fun fs x' => K (⟨Oper.looksAt ops ⟨dst, op, ty, pos, af, gd⟩, dst, [], []⟩ :: fs) x')) : Tr P C ops (⟨dst, op, ty, pos, af, gd⟩ :: rest) ⟨ρ, σ, ls⟩ K := by
  refine tr_pure hg hN (vals := [vx, vy]) (by simp only [hop]; exact ⟨_, _, rfl, hx, _, _, rfl, hy, rfl⟩) (aop_value fun M ι a w hG hvs => ?_) h
  simp only [hop, List.map_cons, List.map_nil, RepVs] at hvs
  obtain ⟨c, r, e1, e2, c2, r2, e3, e4, _⟩ := hvs
  injection e1 with e1 e5
  rw [e3] at e5
  injection e5 with e5 _
  exact hrun M ι a w hG (by rw [e1]; exact e2) (by rw [e5]; exact e4)

theorem t_pick_t {dst : Option Nat} {c x y : Operand} {ty pos af gd vx vy} (hc : opd C.G (look ρ) c = some (.d (.bool true))) (hx : opd C.G (look ρ) x = some vx) (hy : opd C.G (look ρ) y = some vy) (hg : guardIs ops (look ρ) ⟨dst, .pick c x y, ty, pos, af, gd⟩ true) (hN : dstOk ⟨dst, .pick c x y, ty, pos, af, gd⟩ C.N = true)
    (h : Tr P C ops rest ⟨putL ρ dst vx, σ, ls⟩ (fun fs x' => K (⟨Oper.looksAt ops ⟨dst, .pick c x y, ty, pos, af, gd⟩, dst, [], []⟩ :: fs) x')) : Tr P C ops (⟨dst, .pick c x y, ty, pos, af, gd⟩ :: rest) ⟨ρ, σ, ls⟩ K := by
  refine tr_pure hg hN (vals := [.d (.bool true), vx, vy]) ⟨_, _, rfl, hc, _, _, rfl, hx, _, _, rfl, hy, rfl⟩ (aop_value fun M ι a w _ hvs => ?_) h
  simp only [Op.operands, List.map_cons, List.map_nil, RepVs, RepV, RepD] at hvs
  obtain ⟨v1, r1, e1, rfl, v2, r2, e3, e4, _⟩ := hvs
  injection e1 with e1 e5
  rw [e3] at e5; injection e5 with e5 _
  exact ⟨a.eval x, by simp [execOp, e1, asBool], by rw [e5]; exact e4⟩
theorem t_pick_f {dst : Option Nat} {c x y : Operand} {ty pos af gd vx vy} (hc : opd C.G (look ρ) c = some (.d (.bool false))) (hx : opd C.G (look ρ) x = some vx) (hy : opd C.G (look ρ) y = some vy) (hg : guardIs ops (look ρ) ⟨dst, .pick c x y, ty, pos, af, gd⟩ true) (hN : dstOk ⟨dst, .pick c x y, ty, pos, af, gd⟩ C.N = true)
    (h : Tr P C ops rest ⟨putL ρ dst vy, σ, ls⟩ (fun fs x' => K (⟨Oper.looksAt ops ⟨dst, .pick c x y, ty, pos, af, gd⟩, dst, [], []⟩ :: fs) x')) : Tr P C ops (⟨dst, .pick c x y, ty, pos, af, gd⟩ :: rest) ⟨ρ, σ, ls⟩ K := by
  refine tr_pure hg hN (vals := [.d (.bool false), vx, vy]) ⟨_, _, rfl, hc, _, _, rfl, hx, _, _, rfl, hy, rfl⟩ (aop_value fun M ι a w _ hvs => ?_) h
  simp only [Op.operands, List.map_cons, List.map_nil, RepVs, RepV, RepD] at hvs
  obtain ⟨v1, r1, e1, rfl, v2, r2, e3, e4, v3, r3, e6, e7, _⟩ := hvs
  injection e1 with e1 e5
  rw [e3] at e5; injection e5 with e5 e8
  rw [e6] at e8; injection e8 with e8 _
  exact ⟨a.eval y, by simp [execOp, e1, asBool], by rw [e8]; exact e7⟩

/-- Sums, tests and their like on two whole numbers. -/
inductive IntOp : BinOp → IntKind → Int → Int → D → Prop
  | add {k x y} : IntOp .add k x y (.int k (k.wrap (x + y)))
  | sub {k x y} : IntOp .sub k x y (.int k (k.wrap (x - y)))
  | mul {k x y} : IntOp .mul k x y (.int k (k.wrap (x * y)))
  | quo {k x y} : y ≠ 0 → IntOp .quo k x y (.int k (k.wrap (x.tdiv y)))
  | rem {k x y} : y ≠ 0 → IntOp .rem k x y (.int k (x.tmod y))
  | eql {k x y} : IntOp .eql k x y (.bool (x == y))
  | neq {k x y} : IntOp .neq k x y (.bool (x != y))
  | lss {k x y} : IntOp .lss k x y (.bool (decide (x < y)))
  | leq {k x y} : IntOp .leq k x y (.bool (decide (x ≤ y)))
  | gtr {k x y} : IntOp .gtr k x y (.bool (decide (x > y)))
  | geq {k x y} : IntOp .geq k x y (.bool (decide (x ≥ y)))
def D.val : D → Value
  | .bool b => .bool b
  | .int k n => .int k n
  | .str s => .string s
  | _ => undef
theorem run_eqGuard_int {op : BinOp} {t : TypeId} {x y : Operand} {k k' : IntKind} {a b : Int} (w : World) : (eqGuard op t x y (.int k a) (.int k' b)).run P w = .ok () w := by
  unfold eqGuard; split <;> simp
theorem t_bin {dst : Option Nat} {op : BinOp} {tx ty' : TypeId} {x y : Operand} {ty pos af gd} {k : IntKind} {i j : Int} {r : D} (hx : opd C.G (look ρ) x = some (.d (.int k i))) (hy : opd C.G (look ρ) y = some (.d (.int k j))) (hi : IntOp op k i j r)
    (hg : guardIs ops (look ρ) ⟨dst, .binOp op tx x y ty', ty, pos, af, gd⟩ true) (hN : dstOk ⟨dst, .binOp op tx x y ty', ty, pos, af, gd⟩ C.N = true)
    (h : Tr P C ops rest ⟨putL ρ dst (.d r), σ, ls⟩ (fun fs x' => K (⟨Oper.looksAt ops ⟨dst, .binOp op tx x y ty', ty, pos, af, gd⟩, dst, [], []⟩ :: fs) x')) : Tr P C ops (⟨dst, .binOp op tx x y ty', ty, pos, af, gd⟩ :: rest) ⟨ρ, σ, ls⟩ K := by
  refine tr_two rfl hx hy hg hN (fun M ι a w _ h1 h2 => ?_) h
  simp only [RepV, RepD] at h1 h2
  have hrun : ∀ cv, (binOp op tx (.int k i) (.int k j)).run P w = .ok cv w → (execOp a.eval ⟨dst, .binOp op tx x y ty', ty, pos, af, gd⟩).run P w = .ok (.value cv) w := fun cv hcv => by
    simp only [execOp, h1, h2, Sem.run_bind, run_eqGuard_int, Result.andThen_ok, hcv, Sem.run_pure]
  refine ⟨r.val, hrun _ ?_, ?_⟩
  · cases hi <;> simp [binOp, Op.intArith, Op.intDiv, Op.intCmp, D.val, *]
  · cases hi <;> simp only [RepV, RepD, D.val]
theorem run_eqGuard_bool {op : BinOp} {t : TypeId} {x y : Operand} {a b : Bool} (w : World) : (eqGuard op t x y (.bool a) (.bool b)).run P w = .ok () w := by
  unfold eqGuard; split <;> simp
theorem t_not {dst : Option Nat} {tx : TypeId} {x : Operand} {ty pos af gd} {b : Bool} (hx : opd C.G (look ρ) x = some (.d (.bool b)))
    (hg : guardIs ops (look ρ) ⟨dst, .unOp .not tx x, ty, pos, af, gd⟩ true) (hN : dstOk ⟨dst, .unOp .not tx x, ty, pos, af, gd⟩ C.N = true)
    (h : Tr P C ops rest ⟨putL ρ dst (.d (.bool (!b))), σ, ls⟩ (fun fs x' => K (⟨Oper.looksAt ops ⟨dst, .unOp .not tx x, ty, pos, af, gd⟩, dst, [], []⟩ :: fs) x')) : Tr P C ops (⟨dst, .unOp .not tx x, ty, pos, af, gd⟩ :: rest) ⟨ρ, σ, ls⟩ K := by
  refine tr_one rfl hx hg hN (fun M ι a w _ h1 => ?_) h
  simp only [RepV, RepD] at h1
  exact ⟨.bool (!b), by simp [execOp, h1, Op.unary], by simp only [RepV, RepD]⟩
theorem t_neg {dst : Option Nat} {tx : TypeId} {x : Operand} {ty pos af gd} {k : IntKind} {i : Int} (hx : opd C.G (look ρ) x = some (.d (.int k i)))
    (hg : guardIs ops (look ρ) ⟨dst, .unOp .neg tx x, ty, pos, af, gd⟩ true) (hN : dstOk ⟨dst, .unOp .neg tx x, ty, pos, af, gd⟩ C.N = true)
    (h : Tr P C ops rest ⟨putL ρ dst (.d (.int k (k.wrap (0 - i)))), σ, ls⟩ (fun fs x' => K (⟨Oper.looksAt ops ⟨dst, .unOp .neg tx x, ty, pos, af, gd⟩, dst, [], []⟩ :: fs) x')) : Tr P C ops (⟨dst, .unOp .neg tx x, ty, pos, af, gd⟩ :: rest) ⟨ρ, σ, ls⟩ K := by
  refine tr_one rfl hx hg hN (fun M ι a w _ h1 => ?_) h
  simp only [RepV, RepD] at h1
  exact ⟨.int k (k.wrap (0 - i)), by simp [execOp, h1, Op.unary, Op.intArith], by simp only [RepV, RepD]⟩
/-- A whole number made one of another kind. -/
def intB (P : Program) (t : Nat) (k : IntKind) : Bool := match P.underlying t with | some (.int k') => k' == k | _ => false
theorem t_conv {dst : Option Nat} {s d : TypeId} {x : Operand} {ty pos af gd} {k k' : IntKind} {i : Int} (hd : intB P d k' = true) (hs : (P.underlying s).isSome = true) (hx : opd C.G (look ρ) x = some (.d (.int k i)))
    (hg : guardIs ops (look ρ) ⟨dst, .convert s d x, ty, pos, af, gd⟩ true) (hN : dstOk ⟨dst, .convert s d x, ty, pos, af, gd⟩ C.N = true)
    (h : Tr P C ops rest ⟨putL ρ dst (.d (.int k' (k'.wrap i))), σ, ls⟩ (fun fs x' => K (⟨Oper.looksAt ops ⟨dst, .convert s d x, ty, pos, af, gd⟩, dst, [], []⟩ :: fs) x')) : Tr P C ops (⟨dst, .convert s d x, ty, pos, af, gd⟩ :: rest) ⟨ρ, σ, ls⟩ K := by
  have hd' : P.underlying d = some (.int k') := by
    unfold intB at hd
    split at hd
    · rename_i k1 h1; rw [h1]; simp only [beq_iff_eq] at hd; rw [hd]
    · cases hd
  obtain ⟨sd, hs⟩ := Option.isSome_iff_exists.1 hs
  refine tr_one rfl hx hg hN (fun M ι a w _ h1 => ?_) h
  simp only [RepV, RepD] at h1
  refine ⟨.int k' (k'.wrap i), ?_, by simp only [RepV, RepD]⟩
  simp only [execOp, h1, convert, underlying, Sem.run_bind, run_program, Result.andThen_ok, hs, hd', Sem.run_pure, Conv.intToInt]

theorem t_extract {dst : Option Nat} {x : Operand} {n : Nat} {ty pos af gd} {vs : List V} {v : V} (hx : opd C.G (look ρ) x = some (.tup vs)) (hv : vs[n]? = some v)
    (hg : guardIs ops (look ρ) ⟨dst, .extract x n, ty, pos, af, gd⟩ true) (hN : dstOk ⟨dst, .extract x n, ty, pos, af, gd⟩ C.N = true)
    (h : Tr P C ops rest ⟨putL ρ dst v, σ, ls⟩ (fun fs x' => K (⟨Oper.looksAt ops ⟨dst, .extract x n, ty, pos, af, gd⟩, dst, [], []⟩ :: fs) x')) : Tr P C ops (⟨dst, .extract x n, ty, pos, af, gd⟩ :: rest) ⟨ρ, σ, ls⟩ K := by
  refine tr_one rfl hx hg hN (fun M ι a w _ h1 => ?_) h
  simp only [RepV] at h1
  obtain ⟨us, e1, e2⟩ := h1
  obtain ⟨u, e3, e4⟩ := e2.get hv
  exact ⟨u, by simp [execOp, e1, Instr.extract, e3], e4⟩

theorem t_nilCheck {dst : Option Nat} {x : Operand} {ty pos af gd} {l off : Nat} (hx : opd C.G (look ρ) x = some (.ptr l off))
    (hg : guardIs ops (look ρ) ⟨dst, .nilCheck x, ty, pos, af, gd⟩ true) (hN : dstOk ⟨dst, .nilCheck x, ty, pos, af, gd⟩ C.N = true)
    (h : Tr P C ops rest ⟨putL ρ dst (.ptr l off), σ, ls⟩ (fun fs x' => K (⟨Oper.looksAt ops ⟨dst, .nilCheck x, ty, pos, af, gd⟩, dst, [], []⟩ :: fs) x')) : Tr P C ops (⟨dst, .nilCheck x, ty, pos, af, gd⟩ :: rest) ⟨ρ, σ, ls⟩ K := by
  refine tr_one rfl hx hg hN (fun M ι a w _ h1 => ?_) h
  have h1' := h1
  simp only [RepV] at h1
  obtain ⟨bd, b, e1, e2, e3, e4⟩ := h1
  exact ⟨a.eval x, by simp [execOp, e4], h1'⟩

theorem t_makeFunc {dst : Option Nat} {f : FuncId} {caps : Array Operand} {ty pos af gd} {vs : List V} (hx : Opds C.G (look ρ) caps.toList vs)
    (hg : guardIs ops (look ρ) ⟨dst, .makeFunc (.func f) #[] caps, ty, pos, af, gd⟩ true) (hN : dstOk ⟨dst, .makeFunc (.func f) #[] caps, ty, pos, af, gd⟩ C.N = true)
    (h : Tr P C ops rest ⟨putL ρ dst (.clo f vs), σ, ls⟩ (fun fs x' => K (⟨Oper.looksAt ops ⟨dst, .makeFunc (.func f) #[] caps, ty, pos, af, gd⟩, dst, [], []⟩ :: fs) x')) : Tr P C ops (⟨dst, .makeFunc (.func f) #[] caps, ty, pos, af, gd⟩ :: rest) ⟨ρ, σ, ls⟩ K := by
  refine tr_pure hg hN (vals := vs) (by simpa [Op.operands] using hx) (aop_value fun M ι a w _ hvs => ?_) h
  refine ⟨.func (.func f) #[] (caps.map a.eval), by simp [execOp, Instr.makeFunc], ?_⟩
  simp only [RepV]
  exact ⟨caps.toList.map a.eval, by rw [← Array.toList_map], by simpa [Op.operands] using hvs⟩

/-! ### Addresses -/
theorem t_fieldAddr {dst : Option Nat} {s : TypeId} {x : Operand} {n : Nat} {ty pos af gd} {l off fo : Nat} (hf : Fld P s n fo) (hx : opd C.G (look ρ) x = some (.ptr l off))
    (hg : guardIs ops (look ρ) ⟨dst, .fieldAddr s x n, ty, pos, af, gd⟩ true) (hN : dstOk ⟨dst, .fieldAddr s x n, ty, pos, af, gd⟩ C.N = true)
    (h : Tr P C ops rest ⟨putL ρ dst (.ptr l (off + fo)), σ, ls⟩ (fun fs x' => K (⟨Oper.looksAt ops ⟨dst, .fieldAddr s x n, ty, pos, af, gd⟩, dst, [], []⟩ :: fs) x')) : Tr P C ops (⟨dst, .fieldAddr s x n, ty, pos, af, gd⟩ :: rest) ⟨ρ, σ, ls⟩ K := by
  obtain ⟨fs, f, j, h1, h2, h3, h4, h5⟩ := hf.out
  refine tr_one rfl hx hg hN (fun M ι a w _ hr => ?_) h
  simp only [RepV] at hr
  obtain ⟨bd, b, e1, e2, e3, e4⟩ := hr
  refine ⟨.pointer (some ⟨b, off + fo, none⟩), ?_, by simp only [RepV]; exact ⟨bd, b, e1, e2, e3, rfl⟩⟩
  have hz : ¬ j.size = 0 := by omega
  simp only [execOp, e4, Instr.fieldAt, Instr.sureAddr, underlying, Sem.run_bind, run_program, Result.andThen_ok, h1, Sem.run_pure, h2, fieldPlace, sizeOf, typeInfo, h4, hz, if_false, Addr.add, h3]
  by_cases h0 : fo = 0 <;> simp [h0]
theorem t_fieldAddr_c {dst : Option Nat} {s : TypeId} {x : Operand} {n : Nat} {ty pos af gd} {cs ds : List D} {fo : Nat} (hf : Fld P s n fo) (hx : opd C.G (look ρ) x = some (.cptr cs)) (hd : cs.drop fo = ds)
    (hg : guardIs ops (look ρ) ⟨dst, .fieldAddr s x n, ty, pos, af, gd⟩ true) (hN : dstOk ⟨dst, .fieldAddr s x n, ty, pos, af, gd⟩ C.N = true) (hle : Nat.ble fo cs.length = true)
    (h : Tr P C ops rest ⟨putL ρ dst (.cptr ds), σ, ls⟩ (fun fs x' => K (⟨Oper.looksAt ops ⟨dst, .fieldAddr s x n, ty, pos, af, gd⟩, dst, [], []⟩ :: fs) x')) : Tr P C ops (⟨dst, .fieldAddr s x n, ty, pos, af, gd⟩ :: rest) ⟨ρ, σ, ls⟩ K := by
  obtain ⟨fs, f, j, h1, h2, h3, h4, h5⟩ := hf.out
  have hle' := Nat.le_of_ble_eq_true hle
  refine tr_one rfl hx hg hN (fun M ι a w _ hr => ?_) h
  simp only [RepV] at hr
  obtain ⟨ad, e1, e2, e3⟩ := hr
  refine ⟨.pointer (some (ad.add fo)), ?_, ?_⟩
  · have hz : ¬ j.size = 0 := by omega
    simp only [execOp, e1, Instr.fieldAt, Instr.sureAddr, underlying, Sem.run_bind, run_program, Result.andThen_ok, h1, Sem.run_pure, h2, fieldPlace, sizeOf, typeInfo, h4, hz, if_false, h3]
  · simp only [RepV]
    refine ⟨_, rfl, add_spot e2 _, ?_⟩
    rw [← List.take_append_drop fo cs, RepRow.app e2] at e3
    have := e3.2
    rw [List.length_take, Nat.min_eq_left hle', hd] at this
    exact this

theorem Sto.upd_one (H : Sto) (l : Nat) (o : Option O) : H.upd [(l, o)] = H.set l o := rfl

/-! ### New objects -/
theorem t_alloc {d : Nat} {t : TypeId} {ty pos af gd} {zs : List D} {vs : List V} (hz : Zer P t zs) (hv : zs.map V.d = vs) (hg : guardIs ops (look ρ) ⟨some d, .alloc t, ty, pos, af, gd⟩ true) (hN : dstOk ⟨some d, .alloc t, ty, pos, af, gd⟩ C.N = true) (hl : memB d ls = false)
    (h : Tr P C ops rest ⟨(d, .ptr d 0) :: ρ, (d, some (.cells vs t)) :: σ, d :: ls⟩ (fun fs x' => K (⟨Oper.looksAt ops ⟨some d, .alloc t, ty, pos, af, gd⟩, some d, [], [d]⟩ :: fs) x')) : Tr P C ops (⟨some d, .alloc t, ty, pos, af, gd⟩ :: rest) ⟨ρ, σ, ls⟩ K := by
  obtain ⟨i, z, h1, h2, h3⟩ := hz.rep
  subst hv
  refine tr_op hg hN (vals := []) (fp := []) (wr := [(d, some (.cells (zs.map V.d) t))]) (v := .ptr d 0) rfl ?_ (fun _ _ h => by cases h) (fun l hl' _ => by simp at hl'; subst hl'; exact not_mem_of hl) h
  intro E M ι H w a next Q hi hG _ _ hfr hk
  have hfr' : ι d = none := hfr d (by simp) (by simp)
  have hrun : (execOp a.eval ⟨some d, .alloc t, ty, pos, af, gd⟩).run P w = .ok (.value (.pointer (some ⟨w.heap.size, 0, none⟩))) (w.alloc (.cells z.cells t)) := by
    simp only [execOp, Instr.alloc, zeroValue, typeInfo, Sem.run_bind, run_program, Result.andThen_ok, h1, Sem.run_pure, h2, newVar, newRow, run_newObj]
    rfl
  unfold Oper.wp
  rw [hrun, Oper.upon_value]
  have hr := h3 M ι
  have hinv := hi.alloc hfr' t hr (fun x hx => by
    obtain ⟨k, hk⟩ := List.getElem?_of_mem hx
    have hlt : k < zs.length := by
      have := (List.getElem?_eq_some_iff.1 hk).1
      have e := hr.length; simp at e; simp at this; omega
    obtain ⟨u, k1, k2⟩ := hr.get (i := k) (c := V.d zs[k]) (by simp [hlt])
    rw [hk] at k1; injection k1 with k1; subst k1
    simp only [RepV] at k2
    exact k2.one)
  refine hk M _ _ _ (Grow.fresh (fun _ _ h => h) hfr' _) (fun l hl' => Env.set_other _ _ (by simpa using hl')) (by rw [Sto.upd_one]; simpa using hinv) ?_
  simp only [RepV]
  exact ⟨_, _, Env.set_same _ _ _, rfl, rfl, rfl⟩

/-- The cells of a value. -/
inductive Cells : V → List V → Prop
  | agg {vs} : Cells (.agg vs) vs
  | d {x} : Cells (.d x) [.d x]
  | full {es} : Cells (.full es) [.full es]
  | ptr {l o} : Cells (.ptr l o) [.ptr l o]
  | cptr {cs} : Cells (.cptr cs) [.cptr cs]
  | own {es l} : Cells (.own es l) [.own es l]
  | clo {f cs} : Cells (.clo f cs) [.clo f cs]
  | map {l} : Cells (.map l) [.map l]
  | arr {n l} : Cells (.arr n l) [.arr n l]
  | aptr {n l sz i o} : Cells (.aptr n l sz i o) [.aptr n l sz i o]
theorem RepV.one {M : Mem} {ι : Env} {x : V} {v : Value} (h : RepV M ι x v) (hx : Cells x [x]) : v.oneCell' = true ∧ v.cells = #[v] := by
  cases x <;> simp only [RepV] at h
  case any => cases hx
  case d => have := h.one; cases v <;> simp_all [Value.oneCell', Value.cells]
  case full => obtain ⟨_, a, rfl⟩ := h; exact ⟨rfl, rfl⟩
  case ptr => obtain ⟨_, _, _, _, _, rfl⟩ := h; exact ⟨rfl, rfl⟩
  case cptr => obtain ⟨_, rfl, _⟩ := h; exact ⟨rfl, rfl⟩
  case own => have := h.1.one; cases v <;> simp_all [Value.oneCell', Value.cells]
  case clo => obtain ⟨_, rfl, _⟩ := h; exact ⟨rfl, rfl⟩
  case map => obtain ⟨_, _, _, _, _, rfl⟩ := h; exact ⟨rfl, rfl⟩
  case arr => obtain ⟨⟨_, _, _, rfl⟩, _⟩ := h; exact ⟨rfl, rfl⟩
  case val => cases hx
  case aptr => obtain ⟨⟨_, rfl⟩, _⟩ := h; exact ⟨rfl, rfl⟩
  case agg cs =>
    generalize hg : V.agg cs = y at hx
    cases hx <;> first | (injection hg with hg; exfalso; have := congrArg sizeOf hg; simp at this; done) | cases hg
  case tup => cases hx
theorem Cells.rep {M : Mem} {ι : Env} {x : V} {vs : List V} {v : Value} (hx : Cells x vs) (h : RepV M ι x v) : RepVs M ι vs v.cells.toList ∧ ∀ u ∈ v.cells.toList, u.oneCell' = true := by
  cases hx with
  | agg =>
    simp only [RepV] at h
    obtain ⟨us, rfl, h2, h3⟩ := h
    exact ⟨by simpa [Value.cells] using h2, by simpa [Value.cells] using h3⟩
  | _ =>
    have h1 := RepV.one h (by constructor)
    rw [h1.2]
    refine ⟨by simp only [RepVs]; exact ⟨v, [], rfl, h, rfl⟩, by simp [h1.1]⟩

theorem t_box {d : Nat} {t : TypeId} {x : Operand} {ty pos af gd} {v : V} {vs : List V} (hx : opd C.G (look ρ) x = some v) (hc : Cells v vs) (hg : guardIs ops (look ρ) ⟨some d, .box t x, ty, pos, af, gd⟩ true) (hN : dstOk ⟨some d, .box t x, ty, pos, af, gd⟩ C.N = true) (hl : memB d ls = false)
    (h : Tr P C ops rest ⟨(d, .ptr d 0) :: ρ, (d, some (.cells vs t)) :: σ, d :: ls⟩ (fun fs x' => K (⟨Oper.looksAt ops ⟨some d, .box t x, ty, pos, af, gd⟩, some d, [], [d]⟩ :: fs) x')) : Tr P C ops (⟨some d, .box t x, ty, pos, af, gd⟩ :: rest) ⟨ρ, σ, ls⟩ K := by
  refine tr_op hg hN (vals := [v]) (fp := []) (wr := [(d, some (.cells vs t))]) (v := .ptr d 0) ⟨_, _, rfl, hx, rfl⟩ ?_ (fun _ _ h => by cases h) (fun l hl' _ => by simp at hl'; subst hl'; exact not_mem_of hl) h
  intro E M ι H w a next Q hi hG _ hvs hfr hk
  have hfr' : ι d = none := hfr d (by simp) (by simp)
  simp only [Op.operands, List.map_cons, List.map_nil, RepVs] at hvs
  obtain ⟨c, r, e1, e2, _⟩ := hvs
  injection e1 with e1 _
  rw [← e1] at e2
  obtain ⟨k1, k2⟩ := hc.rep e2
  have hrun : (execOp a.eval ⟨some d, .box t x, ty, pos, af, gd⟩).run P w = .ok (.value (.pointer (some ⟨w.heap.size, 0, none⟩))) (w.alloc (.cells (a.eval x).cells t)) := by
    simp only [execOp, Instr.box, newVar, newRow, Sem.run_bind, run_newObj, Result.andThen_ok, Sem.run_pure]
    rfl
  unfold Oper.wp
  rw [hrun, Oper.upon_value]
  have hinv := hi.alloc hfr' t k1 k2
  refine hk M _ _ _ (Grow.fresh (fun _ _ h => h) hfr' _) (fun l hl' => Env.set_other _ _ (by simpa using hl')) (by rw [Sto.upd_one]; simpa using hinv) ?_
  simp only [RepV]
  exact ⟨_, _, Env.set_same _ _ _, rfl, rfl, rfl⟩

/-! ### Loads -/
theorem tr_read {dst : Option Nat} {op : Op} {ty pos af gd} {x : Operand} {v : V} {l off : Nat} {vs : List V} {tc : TypeId} (hop : op.operands = #[x]) (hx : opd C.G (look ρ) x = some (.ptr l off)) (ho : lookO σ l = some (.cells vs tc))
    (hg : guardIs ops (look ρ) ⟨dst, op, ty, pos, af, gd⟩ true) (hN : dstOk ⟨dst, op, ty, pos, af, gd⟩ C.N = true)
    (hrun : ∀ M ι (a : Act) w b cs, a.eval x = .pointer (some ⟨b, off, none⟩) → RepVs M ι vs cs → (∀ x ∈ cs, x.oneCell' = true) → (∀ off j v, (cs.drop off)[j]? = some v → w.cell? ((⟨b, off, none⟩ : Addr).add j) = some v) →
      ∃ cv, (execOp a.eval ⟨dst, op, ty, pos, af, gd⟩).run P w = .ok (.value cv) w ∧ RepV M ι v cv)
    (h : Tr P C ops rest ⟨putL ρ dst v, σ, ls⟩ (fun fs x' => K (⟨Oper.looksAt ops ⟨dst, op, ty, pos, af, gd⟩, dst, [l], []⟩ :: fs) x')) : Tr P C ops (⟨dst, op, ty, pos, af, gd⟩ :: rest) ⟨ρ, σ, ls⟩ K := by
  refine tr_op hg hN (vals := [.ptr l off]) (fp := [(l, .cells vs tc)]) (wr := []) (v := v) (by simp only [hop]; exact ⟨_, _, rfl, hx, rfl⟩) ?_ (fun l' o' hm => by simp at hm; obtain ⟨rfl, rfl⟩ := hm; exact ho) (fun _ h => by cases h) h
  intro E M ι H w a next Q hi hG hfp hvs _ hk
  have hH := hfp l (.cells vs tc) (by simp)
  simp only [hop, List.map_cons, List.map_nil, RepVs, RepV] at hvs
  obtain ⟨c, r, e1, ⟨bd', b', e2, e3, e4, e5⟩, _⟩ := hvs
  injection e1 with e1 _
  obtain ⟨bd, b, cs, c1, c2, c3, c4, c5, c6, c7⟩ := hi.cells hH
  rw [e2] at c1; injection c1 with c1; subst c1
  rw [e4] at c3; injection c3 with c3; subst c3
  obtain ⟨cv, k1, k2⟩ := hrun M ι a w b' cs (by rw [e1, e5]) c5 c6 c7
  unfold Oper.wp
  rw [k1, Oper.upon_value]
  exact hk M ι w cv (Grow.refl _ _) (fun _ _ => rfl) hi k2

theorem t_load1 {dst : Option Nat} {t : TypeId} {x : Operand} {ty pos af gd} {l off : Nat} {vs : List V} {tc : TypeId} {v : V} {n : Nat} (ht : Ty P t n false) (hx : opd C.G (look ρ) x = some (.ptr l off)) (ho : lookO σ l = some (.cells vs tc)) (hv : vs[off]? = some v)
    (hg : guardIs ops (look ρ) ⟨dst, .load t x, ty, pos, af, gd⟩ true) (hN : dstOk ⟨dst, .load t x, ty, pos, af, gd⟩ C.N = true)
    (h : Tr P C ops rest ⟨putL ρ dst v, σ, ls⟩ (fun fs x' => K (⟨Oper.looksAt ops ⟨dst, .load t x, ty, pos, af, gd⟩, dst, [l], []⟩ :: fs) x')) : Tr P C ops (⟨dst, .load t x, ty, pos, af, gd⟩ :: rest) ⟨ρ, σ, ls⟩ K := by
  refine tr_read rfl hx ho hg hN (fun M ι a w b cs e1 e2 _ e3 => ?_) h
  obtain ⟨d, h1, h2⟩ := ht.und
  obtain ⟨u, k1, k2⟩ := e2.get hv
  refine ⟨u, ?_, k2⟩
  simp only [execOp, e1, Instr.loadAt, Instr.sureAddr, Sem.run_bind, Sem.run_pure, Result.andThen_ok]
  rw [run_loadVar_one h1 h2 (by simpa [Addr.add] using e3 off 0 u (by simpa using k1))]
  rfl
theorem t_loadN {dst : Option Nat} {t : TypeId} {x : Operand} {ty pos af gd} {l off : Nat} {vs us : List V} {tc : TypeId} {n : Nat} (ht : Ty P t n true) (hx : opd C.G (look ρ) x = some (.ptr l off)) (ho : lookO σ l = some (.cells vs tc)) (hv : (vs.drop off).take n = us) (hn : us.length = n)
    (hg : guardIs ops (look ρ) ⟨dst, .load t x, ty, pos, af, gd⟩ true) (hN : dstOk ⟨dst, .load t x, ty, pos, af, gd⟩ C.N = true)
    (h : Tr P C ops rest ⟨putL ρ dst (.agg us), σ, ls⟩ (fun fs x' => K (⟨Oper.looksAt ops ⟨dst, .load t x, ty, pos, af, gd⟩, dst, [l], []⟩ :: fs) x')) : Tr P C ops (⟨dst, .load t x, ty, pos, af, gd⟩ :: rest) ⟨ρ, σ, ls⟩ K := by
  refine tr_read rfl hx ho hg hN (fun M ι a w b cs e1 e2 e4 e3 => ?_) h
  obtain ⟨d, h1, h2⟩ := ht.und
  obtain ⟨i, h3, h4⟩ := ht.info
  have hr : RepVs M ι us ((cs.drop off).take n) := by rw [← hv]; exact (e2.drop off).take n
  refine ⟨.agg ((cs.drop off).take n).toArray, ?_, ?_⟩
  · simp only [execOp, e1, Instr.loadAt, Instr.sureAddr, Sem.run_bind, Sem.run_pure, Result.andThen_ok]
    rw [run_loadVar_agg h3 h1 h2 (by rw [h4, hr.length, hn]) (fun j v hj => e3 off j v (by
      rw [List.getElem?_take] at hj; split at hj
      · exact hj
      · cases hj))]
    rfl
  · simp only [RepV]
    exact ⟨_, rfl, hr, fun x hx => e4 x (List.mem_of_mem_drop (List.mem_of_mem_take hx))⟩
/-- The whole of an object. -/
theorem t_load {dst : Option Nat} {t : TypeId} {x : Operand} {ty pos af gd} {l : Nat} {vs : List V} {tc : TypeId} {n : Nat} (ht : Ty P t n true) (hx : opd C.G (look ρ) x = some (.ptr l 0)) (ho : lookO σ l = some (.cells vs tc)) (hn : vs.length = n)
    (hg : guardIs ops (look ρ) ⟨dst, .load t x, ty, pos, af, gd⟩ true) (hN : dstOk ⟨dst, .load t x, ty, pos, af, gd⟩ C.N = true)
    (h : Tr P C ops rest ⟨putL ρ dst (.agg vs), σ, ls⟩ (fun fs x' => K (⟨Oper.looksAt ops ⟨dst, .load t x, ty, pos, af, gd⟩, dst, [l], []⟩ :: fs) x')) : Tr P C ops (⟨dst, .load t x, ty, pos, af, gd⟩ :: rest) ⟨ρ, σ, ls⟩ K :=
  t_loadN ht hx ho (by rw [List.drop_zero, ← hn, List.take_length]) hn hg hN h
/-- Out of memory that never turns. -/
theorem t_load1c {dst : Option Nat} {t : TypeId} {x : Operand} {ty pos af gd} {cs : List D} {v : D} {n : Nat} (ht : Ty P t n false) (hx : opd C.G (look ρ) x = some (.cptr cs)) (hv : cs[0]? = some v)
    (hg : guardIs ops (look ρ) ⟨dst, .load t x, ty, pos, af, gd⟩ true) (hN : dstOk ⟨dst, .load t x, ty, pos, af, gd⟩ C.N = true)
    (h : Tr P C ops rest ⟨putL ρ dst (.d v), σ, ls⟩ (fun fs x' => K (⟨Oper.looksAt ops ⟨dst, .load t x, ty, pos, af, gd⟩, dst, [], []⟩ :: fs) x')) : Tr P C ops (⟨dst, .load t x, ty, pos, af, gd⟩ :: rest) ⟨ρ, σ, ls⟩ K := by
  refine tr_pure hg hN (vals := [.cptr cs]) ⟨_, _, rfl, hx, rfl⟩ ?_ h
  intro E M ι H w a next Q hi hG _ hvs _ hk
  simp only [Op.operands, List.map_cons, List.map_nil, RepVs, RepV] at hvs
  obtain ⟨c, r, e1, ⟨ad, e2, e3, e4⟩, _⟩ := hvs
  injection e1 with e1 _
  obtain ⟨us, k1, k2, k3⟩ := e4.vs (ι := ι) e3
  obtain ⟨u, k4, k5⟩ := k2.get (i := 0) (c := V.d v) (by simp [hv])
  obtain ⟨d, h1, h2⟩ := ht.und
  have hrun : (execOp a.eval ⟨dst, .load t x, ty, pos, af, gd⟩).run P w = .ok (.value u) w := by
    simp only [execOp, e1, e2, Instr.loadAt, Instr.sureAddr, Sem.run_bind, Sem.run_pure, Result.andThen_ok]
    rw [run_loadVar_one h1 h2 (hi.mem _ _ (by simpa [Addr.add] using k1 0 u k4))]
    rfl
  unfold Oper.wp
  rw [hrun, Oper.upon_value]
  exact hk M ι w u (Grow.refl _ _) (fun _ _ => rfl) hi k5
theorem t_loadNc {dst : Option Nat} {t : TypeId} {x : Operand} {ty pos af gd} {cs us : List D} {n : Nat} (ht : Ty P t n true) (hx : opd C.G (look ρ) x = some (.cptr cs)) (hv : cs.take n = us) (hn : us.length = n)
    (hg : guardIs ops (look ρ) ⟨dst, .load t x, ty, pos, af, gd⟩ true) (hN : dstOk ⟨dst, .load t x, ty, pos, af, gd⟩ C.N = true)
    (h : Tr P C ops rest ⟨putL ρ dst (.agg (us.map V.d)), σ, ls⟩ (fun fs x' => K (⟨Oper.looksAt ops ⟨dst, .load t x, ty, pos, af, gd⟩, dst, [], []⟩ :: fs) x')) : Tr P C ops (⟨dst, .load t x, ty, pos, af, gd⟩ :: rest) ⟨ρ, σ, ls⟩ K := by
  refine tr_pure hg hN (vals := [.cptr cs]) ⟨_, _, rfl, hx, rfl⟩ ?_ h
  intro E M ι H w a next Q hi hG _ hvs _ hk
  simp only [Op.operands, List.map_cons, List.map_nil, RepVs, RepV] at hvs
  obtain ⟨c, r, e1, ⟨ad, e2, e3, e4⟩, _⟩ := hvs
  injection e1 with e1 _
  obtain ⟨ws, k1, k2, k3⟩ := e4.vs (ι := ι) e3
  obtain ⟨d, h1, h2⟩ := ht.und
  obtain ⟨i, h3, h4⟩ := ht.info
  have hr : RepVs M ι (us.map V.d) (ws.take n) := by rw [← hv, List.map_take]; exact k2.take n
  have hrun : (execOp a.eval ⟨dst, .load t x, ty, pos, af, gd⟩).run P w = .ok (.value (.agg (ws.take n).toArray)) w := by
    simp only [execOp, e1, e2, Instr.loadAt, Instr.sureAddr, Sem.run_bind, Sem.run_pure, Result.andThen_ok]
    rw [run_loadVar_agg h3 h1 h2 (by rw [h4, hr.length, List.length_map, hn]) (fun j v hj => hi.mem _ _ (k1 j v (by
      rw [List.getElem?_take] at hj; split at hj
      · exact hj
      · cases hj)))]
    rfl
  unfold Oper.wp
  rw [hrun, Oper.upon_value]
  refine hk M ι w _ (Grow.refl _ _) (fun _ _ => rfl) hi ?_
  simp only [RepV]
  exact ⟨_, rfl, hr, fun x hx => k3 x (List.mem_of_mem_take hx)⟩
end
end Go.AM
set_option linter.unusedVariables false
set_option linter.unusedSimpArgs false
namespace Go.AM
open Go Go.RowKit

/-- A list with some elements in place of its own. -/
def spl {α : Type} (xs : List α) (k : Nat) (ys : List α) : List α := xs.take k ++ ys ++ xs.drop (k + ys.length)
theorem RepVs.spl {M : Mem} {ι : Env} {cs : List V} {vs : List Value} {ds : List V} {us : List Value} (k : Nat) (h : RepVs M ι cs vs) (h' : RepVs M ι ds us) : RepVs M ι (AM.spl cs k ds) (AM.spl vs k us) := by
  unfold AM.spl
  rw [h'.length]
  exact ((h.take k).append h').append (h.drop _)

/-- A store into an object's cells, the act of it. -/
theorem Inv.store {P : Program} {E M ι H w} (h : Inv E M ι H w) {l off n : Nat} {vs us : List V} {t tc : TypeId} {b0 : Bool} {bd : Bind} {b : Nat} {v : Value} (ht : Ty P t n b0) (ho : H l = some (.cells vs tc)) (hb : ι l = some bd) (hk : bd.blk = some b)
    (hv : RepVs M ι us v.cells.toList) (h1 : ∀ u ∈ v.cells.toList, u.oneCell' = true) (hn : us.length = n) (hfit : off + n ≤ vs.length) :
    ∃ w', (storeVar t ⟨b, off, none⟩ v).run P w = .ok () w' ∧ Inv E M ι (H.set l (some (.cells (AM.spl vs off us) tc))) w' := by
  obtain ⟨bd', b', cs, c1, c2, c3, c4, c5, c6, c7⟩ := h.cells ho
  rw [hb] at c1; injection c1 with c1; subst c1
  rw [hk] at c3; injection c3 with c3; subst c3
  obtain ⟨i, h3, h4⟩ := ht.info
  have hlen := hv.length
  have hl2 := c5.length
  have hsz : v.cells.size = n := by rw [← Array.length_toList, hlen, hn]
  have hrun := run_storeCells_at P b off tc v.cells.toList 0 cs.toArray w c4 (by simp; omega) h1
  simp only [Nat.add_zero] at hrun
  have hsp : (cs.toArray.toList.take off ++ v.cells.toList ++ cs.toArray.toList.drop (off + v.cells.toList.length)) = AM.spl cs off v.cells.toList := rfl
  rw [hsp] at hrun
  refine ⟨w.setRow b (AM.spl cs off v.cells.toList).toArray, ?_, ?_⟩
  · simp only [storeVar, sizeOf, typeInfo, Sem.run_bind, run_program, Result.andThen_ok, h3, Sem.run_pure, h4, hsz, ne_eq, not_true_eq_false, if_false]
    exact hrun
  · have hspl : AM.spl vs off us = AM.spl vs off us := rfl
    have hr : RepVs M ι (AM.spl vs off us) (AM.spl cs off v.cells.toList) := RepVs.spl off c5 hv
    refine h.write ho hb hk hr ?_ (setRow_heap w b _ _ _ _ c4) (fun k hk' => setRow_other w b k _ hk') (by simp) rfl rfl rfl
    intro x hx
    simp only [AM.spl, List.mem_append] at hx
    rcases hx with (hx | hx) | hx
    · exact c6 x (List.mem_of_mem_take hx)
    · exact h1 x hx
    · exact c6 x (List.mem_of_mem_drop hx)

section
variable {P : Program} {C : Ctx} {ops : Array Oper} {rest : List Oper} {ρ : List (Nat × V)} {σ : List (Nat × Option O)} {ls : List Nat} {K : List FP → A → Prop}

theorem t_store {t : TypeId} {x y : Operand} {ty pos af gd} {l off n : Nat} {vs us ws : List V} {v : V} {tc : TypeId} {b0 : Bool} (ht : Ty P t n b0) (hx : opd C.G (look ρ) x = some (.ptr l off)) (hy : opd C.G (look ρ) y = some v) (hc : Cells v us)
    (ho : lookO σ l = some (.cells vs tc)) (hn : us.length = n) (hfit : Nat.ble (off + n) vs.length = true) (hw : spl vs off us = ws)
    (hg : guardIs ops (look ρ) ⟨none, .store t x y, ty, pos, af, gd⟩ true)
    (h : Tr P C ops rest ⟨ρ, (l, some (.cells ws tc)) :: σ, l :: ls⟩ (fun fs x' => K (⟨Oper.looksAt ops ⟨none, .store t x y, ty, pos, af, gd⟩, none, [l], [l]⟩ :: fs) x')) : Tr P C ops (⟨none, .store t x y, ty, pos, af, gd⟩ :: rest) ⟨ρ, σ, ls⟩ K := by
  subst hw
  refine tr_op hg rfl (vals := [.ptr l off, v]) (fp := [(l, .cells vs tc)]) (wr := [(l, some (.cells (spl vs off us) tc))]) (v := .any) ⟨_, _, rfl, hx, _, _, rfl, hy, rfl⟩ ?_
    (fun l' o' hm => by simp at hm; obtain ⟨rfl, rfl⟩ := hm; exact ho) (fun l' h1 h2 => by simp at h1 h2; exact absurd h1 h2) h
  intro E M ι H w a next Q hi hG hfp hvs _ hk
  have hH := hfp l (.cells vs tc) (by simp)
  simp only [Op.operands, List.map_cons, List.map_nil, RepVs] at hvs
  obtain ⟨c, r, e1, e2, c2, r2, e3, e4, _⟩ := hvs
  injection e1 with e1 e5
  rw [e3] at e5; injection e5 with e5 _
  simp only [RepV] at e2
  obtain ⟨bd, b, k1, k2, k3, k4⟩ := e2
  rw [← e5] at e4
  obtain ⟨m1, m2⟩ := hc.rep e4
  obtain ⟨w', hr, hinv⟩ := hi.store (P := P) ht hH k1 k3 m1 m2 hn (Nat.le_of_ble_eq_true hfit)
  have hrun : (execOp a.eval ⟨none, .store t x y, ty, pos, af, gd⟩).run P w = .ok .skip w' := by
    simp only [execOp, e1, k4, Instr.storeAt, Instr.sureAddr, Sem.run_bind, Sem.run_pure, Result.andThen_ok, hr]
  unfold Oper.wp
  rw [hrun, Oper.upon_skip]
  exact hk M ι w' undef (Grow.refl _ _) (fun _ _ => rfl) (by rw [Sto.upd_one]; exact hinv) (by simp [RepV])

/-- A part of a literal's cells, part by part. -/
inductive CellsAll : List V → List (List V) → Prop
  | nil : CellsAll [] []
  | cons {v vs x xs} : Cells v vs → CellsAll x xs → CellsAll (v :: x) (vs :: xs)
def places (P : Program) (t : Nat) : List (Nat × Nat) :=
  match P.underlying t with
  | some (.struct fs) => fs.toList.map fun f => (f.offset, match P.info? f.type with | some i => i.size | none => 0)
  | _ => []
structure Plc (P : Program) (t : Nat) (ps : List (Nat × Nat)) : Prop where
  out : ∃ fs, P.underlying t = some (.struct fs) ∧ (∀ f ∈ fs.toList, ∃ j, P.info? f.type = some j) ∧ ps = fs.toList.map fun f => (f.offset, match P.info? f.type with | some i => i.size | none => 0)
def plcB (P : Program) (t : Nat) : Bool :=
  match P.underlying t with
  | some (.struct fs) => fs.toList.all fun f => (P.info? f.type).isSome
  | _ => false
theorem Plc.of {P : Program} {t : Nat} {ps : List (Nat × Nat)} (h1 : plcB P t = true) (h2 : places P t = ps) : Plc P t ps := by
  unfold plcB at h1
  unfold places at h2
  split at h1
  · rename_i fs hfs
    rw [hfs] at h2
    simp only [List.all_eq_true, Option.isSome_iff_exists] at h1
    exact ⟨fs, hfs, fun f hf => h1 f hf, h2.symm⟩
  · cases h1
def buildV (ps : List (Nat × Nat)) (cells : List V) : List (Nat × List V) → Option (List V)
  | [] => some cells
  | (i, us) :: r => match ps[i]? with
    | none => none
    | some (off, size) => match Nat.decEq us.length size, Nat.ble (off + us.length) cells.length with
      | .isTrue _, true => buildV ps (spl cells off us) r
      | _, _ => none
theorem fold_spl (off : Nat) : ∀ (us : List Value) (j : Nat) (cells : Array Value), off + j + us.length ≤ cells.size → ((us.zipIdx j).foldl (fun cs (p : Value × Nat) => cs.setIfInBounds (off + p.2) p.1) cells).toList = AM.spl cells.toList (off + j) us
  | [], j, cells, h => by simp [AM.spl]
  | u :: us, j, cells, h => by
    simp only [List.zipIdx_cons, List.foldl_cons, List.length_cons] at h ⊢
    rw [fold_spl off us (j + 1) _ (by simp; omega)]
    unfold AM.spl
    rw [Array.toList_setIfInBounds]
    have hlt : off + j < cells.toList.length := by simp; omega
    rw [show off + (j + 1) = (off + j) + 1 by omega]
    rw [List.take_set, List.drop_set_of_lt (by omega)]
    rw [List.take_add_one, List.getElem?_eq_getElem hlt]
    simp only [List.length_cons, Option.toList_some]
    rw [List.set_append_right _ _ (by simp; omega)]
    simp only [List.length_take]
    rw [Nat.min_eq_left (by omega)]
    simp [Nat.add_assoc, Nat.add_comm 1]
theorem fill_run {M : Mem} {ι : Env} {place : Nat → Option (Nat × Nat)} {ps : List (Nat × Nat)} (hp : ∀ i p, ps[i]? = some p → place i = some p) : ∀ (parts : List (Nat × List V)) (xs : List (Nat × Value)) (cells : List V) (cs : Array Value) (res : List V), RepVs M ι cells cs.toList →
    (parts.length = xs.length ∧ ∀ (k i : Nat) (us : List V) (j : Nat) (v : Value), parts[k]? = some (i, us) → xs[k]? = some (j, v) → i = j ∧ RepVs M ι us v.cells.toList) → buildV ps cells parts = some res → ∃ cs' : Array Value, Instr.fill place cs xs = some cs' ∧ RepVs M ι res cs'.toList ∧ (∀ x ∈ cs'.toList, x ∈ cs.toList ∨ ∃ p ∈ xs, x ∈ p.2.cells.toList)
  | [], xs, cells, cs, res, h, ⟨hl, _⟩, hb => by
    have : xs = [] := List.eq_nil_of_length_eq_zero hl.symm
    subst this
    simp only [buildV, Option.some.injEq] at hb; subst hb
    exact ⟨cs, rfl, h, fun x hx => .inl hx⟩
  | (i, us) :: r, [], cells, cs, res, h, ⟨hl, _⟩, hb => by simp at hl
  | (i, us) :: r, (j, v) :: xs, cells, cs, res, h, ⟨hl, hr⟩, hb => by
    obtain ⟨rfl, hv⟩ := hr 0 i us j v rfl rfl
    simp only [buildV] at hb
    split at hb
    · cases hb
    · rename_i off size hps
      split at hb
      · rename_i e1 _ e2 e3
        have hle := Nat.le_of_ble_eq_true e3
        have hlen := hv.length
        have hlen2 := h.length
        simp only [Array.length_toList] at hlen hlen2
        have hpl : place i = some (off, size) := hp _ _ hps
        simp only [Instr.fill, hpl]
        have hc1 : ¬ (v.cells.size ≠ size) := by omega
        have hc2 : ¬ (off + v.cells.size > cs.size) := by omega
        simp only [hc1, hc2, decide_false, Bool.or_self, Bool.false_eq_true, if_false]
        generalize hcs1 : (v.cells.zipIdx.foldl (fun cs (p : Value × Nat) => cs.setIfInBounds (off + p.2) p.1) cs) = cs1
        have hcs1' : cs1.toList = AM.spl cs.toList off v.cells.toList := by
          have := fold_spl off v.cells.toList 0 cs (by simp; omega)
          rw [Nat.add_zero] at this
          rw [← hcs1, ← this]
          congr 1
          rw [← Array.foldl_toList]
          simp
        have ih := fill_run hp r xs (AM.spl cells off us) cs1 res (by rw [hcs1']; exact RepVs.spl off h hv) ⟨by simpa using hl, fun k a b c d h1 h2 => hr (k + 1) a b c d (by simpa using h1) (by simpa using h2)⟩ hb
        obtain ⟨cs', k1, k2, k3⟩ := ih
        refine ⟨cs', ?_, k2, fun x hx => ?_⟩
        · have : (fun cs (x : Value × Nat) => cs.setIfInBounds (off + x.2) x.1) = (fun (cs : Array Value) (x : Value × Nat) => match x with | (c, j) => cs.setIfInBounds (off + j) c) := rfl
          rw [← k1, ← hcs1]
        · rcases k3 x hx with h1 | ⟨p, hp', h1⟩
          · rw [hcs1'] at h1
            simp only [AM.spl, List.mem_append] at h1
            rcases h1 with (h1 | h1) | h1
            · exact .inl (List.mem_of_mem_take h1)
            · exact .inr ⟨_, List.mem_cons_self, h1⟩
            · exact .inl (List.mem_of_mem_drop h1)
          · exact .inr ⟨p, List.mem_cons_of_mem _ hp', h1⟩
      · cases hb

theorem CellsAll.get {M : Mem} {ι : Env} : ∀ {xs : List V} {uss : List (List V)} {vs : List Value}, CellsAll xs uss → RepVs M ι xs vs → xs.length = uss.length ∧ ∀ (k : Nat) (us : List V) (v : Value), uss[k]? = some us → vs[k]? = some v → RepVs M ι us v.cells.toList ∧ ∀ u ∈ v.cells.toList, u.oneCell' = true
  | _, _, _, .nil, _ => ⟨rfl, fun _ _ _ h => by simp at h⟩
  | _, _, _, .cons hc hr, h => by
    simp only [RepVs] at h
    obtain ⟨v, r, rfl, h1, h2⟩ := h
    have ih := CellsAll.get hr h2
    refine ⟨by simp [ih.1], fun k us u hk hu => ?_⟩
    cases k with
    | zero => simp at hk hu; subst hk; subst hu; exact hc.rep h1
    | succ k => simp at hk hu; exact ih.2 k us u hk hu

/-- A struct, put together. -/
theorem t_build {dst : Option Nat} {t : TypeId} {parts : Array (Nat × Operand)} {ty pos af gd} {zs : List D} {ps : List (Nat × Nat)} {vals : List V} {uss : List (List V)} {res : List V} (hz : Zer P t zs) (hp : Plc P t ps) (hx : Opds C.G (look ρ) (parts.toList.map (·.2)) vals) (hc : CellsAll vals uss)
    (hb : buildV ps (zs.map V.d) ((parts.toList.map (·.1)).zip uss) = some res)
    (hg : guardIs ops (look ρ) ⟨dst, .build t parts, ty, pos, af, gd⟩ true) (hN : dstOk ⟨dst, .build t parts, ty, pos, af, gd⟩ C.N = true)
    (h : Tr P C ops rest ⟨putL ρ dst (.agg res), σ, ls⟩ (fun fs x' => K (⟨Oper.looksAt ops ⟨dst, .build t parts, ty, pos, af, gd⟩, dst, [], []⟩ :: fs) x')) : Tr P C ops (⟨dst, .build t parts, ty, pos, af, gd⟩ :: rest) ⟨ρ, σ, ls⟩ K := by
  obtain ⟨i, z, h1, h2, h3⟩ := hz.rep
  obtain ⟨fs, p1, p3, p4⟩ := hp.out
  refine tr_pure hg hN (vals := vals) (by simpa [Op.operands] using hx) (aop_value fun M ι a w _ hvs => ?_) h
  have hvs' : RepVs M ι vals ((parts.toList.map (·.2)).map a.eval) := by simpa [Op.operands] using hvs
  have hall := CellsAll.get hc hvs'
  have hlen := hvs'.length
  simp only [List.length_map] at hlen
  have hplaces : (fs.mapM (m := Sem) fun f => do pure (f.offset, ← sizeOf f.type)).run P w = .ok ps.toArray w := by
    have : ∀ (l : List Field), (∀ f ∈ l, ∃ j, P.info? f.type = some j) → (l.mapM (m := Sem) fun f => do pure (f.offset, ← sizeOf f.type)).run P w = .ok (l.map fun f => (f.offset, match P.info? f.type with | some i => i.size | none => 0)) w := by
      intro l
      induction l with
      | nil => intro _; simp
      | cons f l ih =>
        intro hf
        have q1 := ih (fun g hg => hf g (List.mem_cons_of_mem _ hg))
        obtain ⟨j, hj⟩ := hf f List.mem_cons_self
        rw [List.mapM_cons]
        simp only [Sem.run_bind, sizeOf, typeInfo, run_program, Result.andThen_ok, hj, Sem.run_pure, List.map_cons] at q1 ⊢
        rw [q1]
        rfl
    rw [← Array.toArray_toList (xs := fs), List.mapM_toArray]
    simp only [Sem.run_map, this fs.toList p3, Result.andThen_ok, p4]
  have hfill := fill_run (M := M) (ι := ι) (place := fun k => ps.toArray[k]?) (ps := ps) (fun k p h => by simpa using h) ((parts.toList.map (·.1)).zip uss) (parts.toList.map fun p => (p.1, a.eval p.2)) (zs.map V.d) z.cells res (h3 M ι) ⟨by rw [List.length_zip, List.length_map, List.length_map, ← hall.1, ← hlen]; simp, fun k i us j v e1 e2 => ?hh⟩ hb
  case hh =>
    rw [List.getElem?_zip_eq_some] at e1
    simp only [List.getElem?_map, Option.map_eq_some_iff] at e1 e2
    obtain ⟨⟨p, e3, e4⟩, e5⟩ := e1
    obtain ⟨p', e6, e7⟩ := e2
    rw [e3] at e6; injection e6 with e6; subst e6
    injection e7 with e7 e8
    refine ⟨by rw [← e4, ← e7], ?_⟩
    exact (hall.2 k us v e5 (by simp [e3, e8])).1
  obtain ⟨cs', f1, f2, f3⟩ := hfill
  refine ⟨.agg cs', ?_, ?_⟩
  · simp only [execOp, Instr.build, zeroValue, typeInfo, underlying, Sem.run_bind, run_program, Result.andThen_ok, h1, h2, Sem.run_pure, p1]
    rw [hplaces]
    simp only [Result.andThen_ok]
    rw [show (parts.map fun x => match x with | (i, x) => (i, a.eval x)).toList = parts.toList.map fun p => (p.1, a.eval p.2) by simp]
    rw [f1]
    simp
  · simp only [RepV]
    refine ⟨cs'.toList, by simp, f2, fun x hx => ?_⟩
    rcases f3 x hx with h' | ⟨p, hp', h'⟩
    · obtain ⟨k, hk⟩ := List.getElem?_of_mem h'
      have hr := h3 M ι
      have hlt : k < zs.length := by
        have := (List.getElem?_eq_some_iff.1 hk).1
        have e := hr.length; simp at e; simp at this; omega
      obtain ⟨u, k1, k2⟩ := hr.get (i := k) (c := V.d zs[k]) (by simp [hlt])
      rw [hk] at k1; injection k1 with k1; subst k1
      simp only [RepV] at k2
      exact k2.one
    · obtain ⟨k, hk⟩ := List.getElem?_of_mem hp'
      have hlt : k < parts.toList.length := by
        have := (List.getElem?_eq_some_iff.1 hk).1; simpa using this
      simp only [List.getElem?_map, Option.map_eq_some_iff] at hk
      obtain ⟨q, q1, q2⟩ := hk
      have hlu : k < uss.length := by rw [← hall.1]; omega
      refine (hall.2 k uss[k] p.2 (List.getElem?_eq_getElem hlu) ?_).2 x h'
      simp [q1, ← q2]
end
end Go.AM

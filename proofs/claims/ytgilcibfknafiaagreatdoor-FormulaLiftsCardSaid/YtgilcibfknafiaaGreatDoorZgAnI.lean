/-
  Formulas that are made, and the law FormulaLifts.
-/
import Derived.Test.YtgilcibfknafiaaGreatDoorZgAnH
set_option linter.unusedVariables false
set_option linter.unusedSimpArgs false
set_option maxHeartbeats 4000000
namespace Go.AM
open Go
theorem loopL_unit {α R : Type} {fin : Unit → Option R} {step : (Unit → Option R) → Nat → α → Unit → Option R} : ∀ {l : List α} {i : Nat}, (∀ k i a, a ∈ l → step k i a () = k ()) → loopL fin step i l () = fin ()
  | [], i, _ => rfl
  | a :: l, i, h => by
    rw [loopL_cons, h _ _ a List.mem_cons_self]
    exact loopL_unit fun k i b hb => h k i b (List.mem_cons_of_mem _ hb)
/-- A formula of a context. -/
inductive HasF : List Typ → Frm → Prop
  | eq {g : List Typ} {a b : Trm} (ha : HasT g a .nat) (hb : HasT g b .nat) : HasF g (.mk 1 .zero [a, b] [])
  | two {g : List Typ} {k : Int} {x y : Frm} (hk : k = 2 ∨ k = 3) (hx : HasF g x) (hy : HasF g y) : HasF g (.mk k .zero [] [x, y])
  | q {g : List Typ} {k : Int} {s : Typ} {x : Frm} (hk : k = 4 ∨ k = 5 ∨ k = 6 ∨ k = 7) (hs : s.okB = true) (hx : HasF (g ++ [s]) x) : HasF g (.mk k s [] [x])
theorem idxB_of9 {g : List Typ} {t : Trm} {u : Typ} (h : HasT g t u) : g.length + t.sz ≤ 900000 → t.idxB 900000 = true := by
  induction h with
  | var h => intro hb; simp [Trm.var, Trm.idxB, idxBs]; omega
  | lam h1 h2 h3 ih => intro hb; rw [sz_tm1] at hb; simp [Trm.idxB, idxBs]; exact ih (by simp; omega)
  | app h1 h2 i1 i2 => intro hb; rw [tm, sz_tm2] at hb; simp [tm, Trm.idxB, idxBs]; exact ⟨i1 (by omega), i2 (by omega)⟩
  | zero => intro _; rfl
  | succ h1 i1 => intro hb; rw [tm, sz_tm1] at hb; simp [tm, Trm.idxB, idxBs]; exact i1 (by omega)
  | recu h1 h2 h3 h4 i2 i3 i4 => intro hb; rw [sz_tm3] at hb; simp [Trm.idxB, idxBs]; exact ⟨i2 (by omega), i3 (by omega), i4 (by omega)⟩
  | nil => intro _; rfl
  | cons h1 h2 i1 i2 => intro hb; rw [tm, sz_tm2] at hb; simp [tm, Trm.idxB, idxBs]; exact ⟨i1 (by omega), i2 (by omega)⟩
  | fold h1 h2 h3 h4 i2 i3 i4 => intro hb; rw [sz_tm3] at hb; simp [Trm.idxB, idxBs]; exact ⟨i2 (by omega), i3 (by omega), i4 (by omega)⟩
  | pair h1 h2 h3 i2 i3 => intro hb; rw [tm, sz_tm2] at hb; simp [tm, Trm.idxB, idxBs]; exact ⟨i2 (by omega), i3 (by omega)⟩
  | fst h1 i1 => intro hb; rw [tm, sz_tm1] at hb; simp [tm, Trm.idxB, idxBs]; exact i1 (by omega)
  | snd h1 i1 => intro hb; rw [tm, sz_tm1] at hb; simp [tm, Trm.idxB, idxBs]; exact i1 (by omega)
  | unit => intro _; rfl
theorem HasF.sm {g : List Typ} {f : Frm} (h : HasF g f) : g.length + f.nodes ≤ 100000 → FSm 900000 f := by
  induction h with
  | @eq g a b ha hb => intro hl; rw [nodes_eq] at hl; exact .eq (shape_of ha) (shape_of hb) (idxB_of9 ha (by omega)) (idxB_of9 hb (by omega))
  | @two g k x y hk hx hy ix iy => intro hl; rw [nodes_two] at hl; exact .two hk (ix (by omega)) (iy (by omega))
  | @q g k s x hk hs hx ih => intro hl; rw [nodes_q] at hl; exact .q hk hs (ih (by simp; omega))
theorem numEq2 {g : List Typ} {a : Trm} (h : HasT g a .nat) (hg : ∀ u ∈ g, u.okB = true) (hl : g.length + a.sz ≤ 100000) : typing_Context_Number (g.map ofT) a = some 0 := by
  unfold typing_Context_Number typing_Context_Has
  rw [bnd_eq (show typing_Context_TypeOf (g.map ofT) a = _ from typeOfEq h FU (by unfold FU; omega) hg hl)]
  rfl
theorem withEq {g : List Typ} {s : Typ} (hs : s.okB = true) (hl : g.length ≤ 100000) : typing_Context_With (g.map ofT) [s] = some ((g ++ [s]).map ofT) := by
  unfold typing_Context_With
  have e : ((g.map ofT).take (((g.map ofT).length : Nat) : Int).toNat).drop (0 : Int).toNat = g.map ofT := by
    rw [Int.toNat_natCast, List.take_of_length_le (Nat.le_refl _)]; rfl
  rw [cut_ok (by omega) (by omega) (by omega), e, bnd_eq (typFrom (l := [s]) (fun a ha => by simp at ha; subst ha; exact hs) (by simp)), gd_ok (by simp; omega)]
  rw [List.map_append]
theorem ctxFrm {g : List Typ} {f : Frm} (h : HasF g f) : ∀ m : Nat, f.nodes ≤ m → (∀ u ∈ g, u.okB = true) → g.length + f.nodes ≤ 50000 → typing_Context_Formula_m m (g.map ofT) f = some 0 := by
  induction h with
  | @eq g a b ha hb =>
    intro m hm hg hl
    rw [nodes_eq] at hm hl
    cases m with
    | zero => omega
    | succ m =>
      show typing_Context_Formula_b (fun c f => typing_Context_Formula_m m c f) (g.map ofT) (.mk 1 .zero [a, b] []) = _
      unfold typing_Context_Formula_b
      simp only [Frm.kind_mk, Frm.terms_mk, Int.reduceBEq, cond_false, loopL_cons, loopL_nil, numEq2 ha hg (show g.length + a.sz ≤ 100000 by omega), numEq2 hb hg (show g.length + b.sz ≤ 100000 by omega), bnd_some, bne_self_eq_false]
  | @two g k x y hk hx hy ix iy =>
    intro m hm hg hl
    rw [nodes_two] at hm hl
    cases m with
    | zero => omega
    | succ m =>
      have h1 := ix m (by omega) hg (by omega)
      have h2 := iy m (by omega) hg (by omega)
      have e : typing_Context_Formula_b (fun c f => typing_Context_Formula_m m c f) (g.map ofT) (.mk k .zero [] [x, y]) = typing_Context_Formula_k2 (fun c f => typing_Context_Formula_m m c f) (.mk k .zero [] [x, y]) (g.map ofT) := by rcases hk with rfl | rfl <;> rfl
      show typing_Context_Formula_b (fun c f => typing_Context_Formula_m m c f) (g.map ofT) (.mk k .zero [] [x, y]) = _
      rw [e]
      unfold typing_Context_Formula_k2
      simp only [Frm.args_mk, loopL_cons, loopL_nil, h1, h2, bnd_some, bne_self_eq_false, cond_false]
  | @q g k s x hk hs hx ih =>
    intro m hm hg hl
    rw [nodes_q] at hm hl
    cases m with
    | zero => omega
    | succ m =>
      have h1 := ih m (by omega) (ext hg hs) (by simp; omega)
      have e : typing_Context_Formula_b (fun c f => typing_Context_Formula_m m c f) (g.map ofT) (.mk k s [] [x]) = typing_Context_Formula_k1 (fun c f => typing_Context_Formula_m m c f) (g.map ofT) (.mk k s [] [x]) () := by rcases hk with rfl | rfl | rfl | rfl <;> rfl
      show typing_Context_Formula_b (fun c f => typing_Context_Formula_m m c f) (g.map ofT) (.mk k s [] [x]) = _
      rw [e]
      unfold typing_Context_Formula_k1 typing_Context_Formula_k2
      simp only [Frm.ty_mk, withEq hs (show g.length ≤ 100000 by omega), Frm.args_mk, loopL_cons, loopL_nil, h1, bnd_some, bne_self_eq_false, cond_false]
theorem typedF {g : List Typ} {f : Frm} (h : HasF g f) (hg : ∀ u ∈ g, u.okB = true) (hl : g.length ≤ 16) (hn : f.nodes ≤ 4000) : formula_Typed g f = some 0 := by
  have hs := h.sm (by omega)
  have hb := hs.big
  have e1 : types_Context g = some 0 := by
    unfold types_Context
    rw [decide_eq_false (by omega), cond_false]
    refine loopL_unit fun k i a ha => ?_
    have hc := checkType a (ok_sz (hg a ha))
    rw [err0 (hg a ha)] at hc
    unfold types_Check
    rw [hc]; rfl
  unfold formula_Typed
  rw [bnd_eq e1]
  show bnd (formula_Check f) _ = _
  rw [bnd_eq (checkF (hs.ok (by omega)) (by omega) (by omega))]
  show bnd (typing_From g) _ = _
  rw [bnd_eq (typFrom hg (by omega))]
  rw [bnd_eq (show typing_Context_Formula (g.map ofT) f = _ from ctxFrm h FU (by unfold FU; omega) hg (by omega))]
/-! ### Lifted formulas keep their types -/
theorem lift1_typed {g d : List Typ} {s : Typ} {t : Trm} {u : Typ} (h : HasT (g ++ d) t u) (hb : (g ++ d).length + t.sz ≤ 100000) : HasT (g ++ [s] ++ d) (t.lift d.length 1) u := by
  have := rebuild_typed (f := liftAt d.length 1) (g := g ++ d) (g' := g ++ [s] ++ d) (fun e i hi hl => by
    simp only [List.length_append] at hi hl
    unfold liftAt
    rw [w64_id (by omega) (by omega)]
    by_cases hc : d.length + e.length ≤ i
    · rw [if_pos (by simp; omega), w64_id (by omega) (by omega)]
      rw [show (i : Int) + 1 = ((i + 1 : Nat) : Int) by omega]
      refine HasT.varI (by simp; omega) ?_
      rw [List.append_assoc (g ++ [s]), List.append_assoc g d e, tyAt_left (g ++ [s]) (d ++ e) (by simp; omega) (by simp; omega), tyAt_left g (d ++ e) (by simp; omega) (by simp; omega), tyAt_left g [s] (by simp; omega) (by simp; omega)]
      congr 1; simp; omega
    · rw [if_neg (by simp; omega)]
      refine HasT.varI (by simp; omega) ?_
      rw [List.append_assoc (g ++ [s]), List.append_assoc g d e, tyAt_right (g ++ [s]) (d ++ e) (by simp; omega), tyAt_right g (d ++ e) (by simp; omega)]) h [] (by simp) (by omega)
  simpa [Trm.lift] using this
theorem up_typed {g : List Typ} {s : Typ} : ∀ {G : List Typ} {f : Frm}, HasF G f → ∀ d : List Typ, G = g ++ d → G.length + f.nodes ≤ 50000 → HasF (g ++ [s] ++ d) (f.up d.length) := by
  intro G f h
  induction h with
  | @eq G a b ha hb =>
    intro d e hl
    subst e
    rw [nodes_eq] at hl
    rw [up_eq]
    exact .eq (lift1_typed ha (by omega)) (lift1_typed hb (by omega))
  | @two G k x y hk hx hy ix iy =>
    intro d e hl
    rw [nodes_two] at hl
    rw [up_two hk]
    exact .two hk (ix d e (by omega)) (iy d e (by omega))
  | @q G k t x hk hs hx ih =>
    intro d e hl
    rw [nodes_q] at hl
    rw [up_q hk]
    have := ih (d ++ [t]) (by rw [e, List.append_assoc]) (by simp; omega)
    rw [List.length_append, ← List.append_assoc] at this
    exact .q hk hs this
/-! ### Negations and disjunctions -/
def falF : Frm := .mk 1 .zero [tm 4 [], tm 5 [tm 4 []]] []
theorem falEq : formula_False () = some falF := rfl
theorem fal_typed (g : List Typ) : HasF g falF := .eq .zero (.succ .zero)
def notF (f : Frm) : Frm := .mk 3 .zero [] [f, falF]
theorem notEq {f : Frm} (h : FSm 900000 f) (hn : f.nodes ≤ 3000) : formula_Not f = some (notF f, 0) := by
  have hb := h.big
  have hok : FSm 900000 (notF f) := .two (.inr rfl) h (.eq rfl rfl rfl rfl)
  have hnn : (notF f).nodes = 1 + f.nodes + 4 := by rw [notF, nodes_two]; rfl
  have hbb := hok.big
  unfold formula_Not formula_sized
  rw [bnd_eq (checkF (h.ok (by omega)) (by omega) (by omega))]
  show bnd (tree_OwnFormula f) _ = _
  rw [bnd_eq (ownF h (by omega)), bnd_eq falEq]
  show bnd (bnd (formula_Check (notF f)) _) _ = _
  rw [bnd_eq (checkF (hok.ok (by omega)) (by omega) (by omega))]
  rfl
def isZ : Frm := .mk 1 .zero [.var 0, tm 4 []] []
def orF (a b : Frm) : Frm := .mk 5 .nat [] [.mk 2 .zero [] [.mk 3 .zero [] [isZ, a], .mk 3 .zero [] [.mk 3 .zero [] [isZ, falF], b]]]
theorem orEq {a b : Frm} (ha : FSm 900000 a) (hb : FSm 900000 b) (hna : a.nodes ≤ 1000) (hnb : b.nodes ≤ 1000) : formula_Or a b = some (orF (a.up 0) (b.up 0), 0) := by
  obtain ⟨a1, a2, a3⟩ := ha.up 0 (by omega)
  obtain ⟨b1, b2, b3⟩ := hb.up 0 (by omega)
  have isok : FOk isZ := .eq rfl rfl rfl rfl
  have faok : FOk falF := .eq rfl rfl rfl rfl
  have hok : FOk (orF (a.up 0) (b.up 0)) := .q (by omega) rfl (.two (.inl rfl) (.two (.inr rfl) isok a1) (.two (.inr rfl) (.two (.inr rfl) isok faok) b1))
  have hn : (orF (a.up 0) (b.up 0)).nodes = 15 + (a.up 0).nodes + (b.up 0).nodes := by
    simp only [orF, nodes_q, nodes_two]
    have e1 : isZ.nodes = 3 := rfl
    have e2 : falF.nodes = 4 := rfl
    rw [e1, e2]; omega
  have hbg : (orF (a.up 0) (b.up 0)).big ≤ 200 + (a.up 0).big + (b.up 0).big := by
    simp only [orF, big_q, big_two]
    have e1 : isZ.big ≤ 20 := by decide
    have e2 : falF.big ≤ 20 := by decide
    have e3 : Typ.nat.sz = 1 := rfl
    omega
  unfold formula_Or formula_sized
  rw [bnd_eq (liftFr ha (by omega))]
  show bnd (formula_Lift b 0 1) _ = _
  rw [bnd_eq (liftFr hb (by omega))]
  show bnd (bnd (formula_Check (orF (a.up 0) (b.up 0))) _) _ = _
  rw [bnd_eq (checkF hok (by omega) (by omega))]
  rfl
theorem or_typed {g : List Typ} {a b : Frm} (ha : HasF g a) (hb : HasF g b) (hna : g.length + a.nodes ≤ 50000) (hnb : g.length + b.nodes ≤ 50000) : HasF g (orF (a.up 0) (b.up 0)) := by
  have u1 : HasF (g ++ [.nat] ++ []) (a.up ([] : List Typ).length) := up_typed ha [] (by simp) hna
  have u2 : HasF (g ++ [.nat] ++ []) (b.up ([] : List Typ).length) := up_typed hb [] (by simp) hnb
  rw [List.append_nil] at u1 u2
  have iz : HasF (g ++ [.nat]) isZ := .eq v0 .zero
  exact .q (by omega) rfl (.two (.inl rfl) (.two (.inr rfl) iz u1) (.two (.inr rfl) (.two (.inr rfl) iz (fal_typed _)) u2))
theorem type1Eq' {L : List Int} (hL : L.length ≤ 500) (a : Nat) : make_Type_eb1 1 (Dk L a) = some ((mkType L 1 a).1, ((mkType L 1 a).2 : Int)) := typeEq hL 1 (by omega) a
theorem type0Eq' {L : List Int} (hL : L.length ≤ 500) (a : Nat) : make_Type_eb1 0 (Dk L a) = some ((mkType L 0 a).1, ((mkType L 0 a).2 : Int)) := typeEq hL 0 (by omega) a
/-! ### Formulas that are made -/
def mkEq (L : List Int) (g : List Typ) (a : Nat) : Frm × Nat :=
  (.mk 1 .zero [(mkTerm L 100 1 g .nat a).1, (mkTerm L 100 1 g .nat (mkTerm L 100 1 g .nat a).2).1] [], (mkTerm L 100 1 g .nat (mkTerm L 100 1 g .nat a).2).2)
def mkFrm (L : List Int) : Nat → List Typ → Nat → Frm × Nat
  | 0, g, a => mkEq L g a
  | d + 1, g, a =>
    if (next L 9 a).1 == 0 then (.mk 2 .zero [] [(mkFrm L d g (next L 9 a).2).1, (mkFrm L d g (mkFrm L d g (next L 9 a).2).2).1], (mkFrm L d g (mkFrm L d g (next L 9 a).2).2).2)
    else if (next L 9 a).1 == 1 || (next L 9 a).1 == 2 then (.mk 3 .zero [] [(mkFrm L d g (next L 9 a).2).1, (mkFrm L d g (mkFrm L d g (next L 9 a).2).2).1], (mkFrm L d g (mkFrm L d g (next L 9 a).2).2).2)
    else if (next L 9 a).1 == 3 || (next L 9 a).1 == 4 then
      (.mk 4 (mkType L 1 (next L 9 a).2).1 [] [(mkFrm L d (g ++ [(mkType L 1 (next L 9 a).2).1]) (mkType L 1 (next L 9 a).2).2).1], (mkFrm L d (g ++ [(mkType L 1 (next L 9 a).2).1]) (mkType L 1 (next L 9 a).2).2).2)
    else if (next L 9 a).1 == 5 then
      (.mk 5 (mkType L 1 (next L 9 a).2).1 [] [(mkFrm L d (g ++ [(mkType L 1 (next L 9 a).2).1]) (mkType L 1 (next L 9 a).2).2).1], (mkFrm L d (g ++ [(mkType L 1 (next L 9 a).2).1]) (mkType L 1 (next L 9 a).2).2).2)
    else if (next L 9 a).1 == 6 then
      (.mk (6 + (next L 2 (mkType L 0 (next L 9 a).2).2).1) (mkType L 0 (next L 9 a).2).1 [] [(mkFrm L d (g ++ [(mkType L 0 (next L 9 a).2).1]) (next L 2 (mkType L 0 (next L 9 a).2).2).2).1], (mkFrm L d (g ++ [(mkType L 0 (next L 9 a).2).1]) (next L 2 (mkType L 0 (next L 9 a).2).2).2).2)
    else mkEq L g (next L 9 a).2
theorem mkEq_ok (L : List Int) {g : List Typ} (hg : ∀ u ∈ g, sm u) (hl : g.length ≤ 16) (a : Nat) : HasF g (mkEq L g a).1 ∧ (mkEq L g a).1.nodes ≤ 49 := by
  have key : ∀ a, HasT g (mkTerm L 100 1 g .nat a).1 .nat ∧ (mkTerm L 100 1 g .nat a).1.sz ≤ 24 := fun a => by
    have hf : fuelOk 100 1 .nat := .inr ⟨by omega, by omega⟩
    have h1 := mkTerm_typed L 100 1 g .nat a sm_nat hg (by omega) hf
    have h2 := mkTerm_wt L (w := 1) (by omega) 100 1 g .nat a sm_nat hg hf
    have h4 : ww 1 (Int.toNat 1) .nat ≤ 24 := by decide
    have h5 : (mkTerm L 100 1 g .nat a).1.sz + (mkTerm L 100 1 g .nat a).1.cnt 0 0 * 0 ≤ (mkTerm L 100 1 g .nat a).1.wt 1 0 := wt_cnt 0 _ 0
    exact ⟨h1, by omega⟩
  obtain ⟨t1, z1⟩ := key a
  obtain ⟨t2, z2⟩ := key (mkTerm L 100 1 g .nat a).2
  refine ⟨.eq t1 t2, ?_⟩
  unfold mkEq
  rw [nodes_eq]; omega
theorem sm_t0 (L : List Int) (a : Nat) : sm (mkType L 0 a).1 := ⟨mkType_shape L 0 a, by rw [mkType_sz0]; omega⟩
theorem mkFrm_ok (L : List Int) : ∀ (d : Nat) (g : List Typ) (a : Nat), (∀ u ∈ g, sm u) → g.length + d ≤ 16 → HasF g (mkFrm L d g a).1 ∧ (mkFrm L d g a).1.nodes + 1 ≤ 50 * 2 ^ d := by
  intro d
  induction d with
  | zero =>
    intro g a hg hl
    have := mkEq_ok L hg (by omega) a
    exact ⟨this.1, by show (mkEq L g a).1.nodes + 1 ≤ 50 * 1; omega⟩
  | succ d ih =>
    intro g a hg hl
    have hp : 2 ^ (d + 1) = 2 * 2 ^ d := by rw [Nat.pow_succ]; omega
    have hp1 : 1 ≤ 2 ^ d := Nat.one_le_two_pow
    rw [hp]
    have hq : ∀ (s : Typ) (b : Nat), sm s → HasF (g ++ [s]) (mkFrm L d (g ++ [s]) b).1 ∧ (mkFrm L d (g ++ [s]) b).1.nodes + 1 ≤ 50 * 2 ^ d := fun s b hs => ih (g ++ [s]) b (sext hg hs) (by simp; omega)
    have h2 : ∀ b, HasF g (mkFrm L d g b).1 ∧ (mkFrm L d g b).1.nodes + 1 ≤ 50 * 2 ^ d := fun b => ih g b hg (by omega)
    unfold mkFrm
    split
    · obtain ⟨x1, x2⟩ := h2 (next L 9 a).2
      obtain ⟨y1, y2⟩ := h2 (mkFrm L d g (next L 9 a).2).2
      exact ⟨.two (.inl rfl) x1 y1, by rw [nodes_two]; omega⟩
    · split
      · obtain ⟨x1, x2⟩ := h2 (next L 9 a).2
        obtain ⟨y1, y2⟩ := h2 (mkFrm L d g (next L 9 a).2).2
        exact ⟨.two (.inr rfl) x1 y1, by rw [nodes_two]; omega⟩
      · split
        · obtain ⟨x1, x2⟩ := hq (mkType L 1 (next L 9 a).2).1 (mkType L 1 (next L 9 a).2).2 (mkType_sm L _)
          exact ⟨.q (by omega) (sm_ok (mkType_sm L _)) x1, by rw [nodes_q]; omega⟩
        · split
          · obtain ⟨x1, x2⟩ := hq (mkType L 1 (next L 9 a).2).1 (mkType L 1 (next L 9 a).2).2 (mkType_sm L _)
            exact ⟨.q (by omega) (sm_ok (mkType_sm L _)) x1, by rw [nodes_q]; omega⟩
          · split
            · obtain ⟨x1, x2⟩ := hq (mkType L 0 (next L 9 a).2).1 (next L 2 (mkType L 0 (next L 9 a).2).2).2 (sm_t0 L _)
              have hr := next_range L (mkType L 0 (next L 9 a).2).2 (n := 2) (by omega) (by omega)
              exact ⟨.q (by omega) (sm_ok (sm_t0 L _)) x1, by rw [nodes_q]; omega⟩
            · have := mkEq_ok L hg (by omega) (next L 9 a).2
              exact ⟨this.1, by omega⟩
abbrev enF (p : Frm × Nat) : Option (Frm × Int) := some (p.1, ((p.2 : Nat) : Int))
theorem frm3Eq {L : List Int} (hL : L.length ≤ 500) {g : List Typ} (hg : ∀ u ∈ g, sm u) (hl : g.length ≤ 16) (at0 : Int) (a : Nat) : make_Formula_6d8_k3 g ⟨L, at0⟩ (a : Int) = enF (mkEq L g a) := by
  have key : ∀ a, make_Term_02b g .nat 1 (Dk L a) = en2 (mkTerm L 100 1 g .nat a) := fun a => termEq hL 1 (by omega) g .nat a rfl (fun w hw => sm_ok (hg w hw)) (by omega) (.inr ⟨by omega, by omega⟩)
  have big : ∀ a, (mkTerm L 100 1 g .nat a).1.big ≤ 64000 := fun a => mkTerm_64k L 100 1 g .nat a rfl (fun u hu => sm_ok (hg u hu)) (.inr ⟨by omega, by omega⟩) (by omega)
  have en : ref01_Nat () = some .nat := rfl
  have b1 := big a
  have b2 := big (mkTerm L 100 1 g .nat a).2
  unfold make_Formula_6d8_k3 ref07_Eq
  simp only [en, bnd_some, key, copyTm _ (show (mkTerm L 100 1 g .nat a).1.big ≤ 1000000 by omega), copyTm _ (show (mkTerm L 100 1 g .nat (mkTerm L 100 1 g .nat a).2).1.big ≤ 1000000 by omega)]
  rfl
theorem twoEq {k : Int} {x y : Frm} (hx : FSm 900000 x) (hy : FSm 900000 y) (bx : x.big ≤ 1000000) (by_ : y.big ≤ 1000000) : ref07_Two k x y = some (.mk k .zero [] [x, y]) := by
  unfold ref07_Two
  rw [bnd_eq (copyF hx bx), bnd_eq (copyF hy by_)]; rfl
theorem qEq {k : Int} {s : Typ} {x : Frm} (hs : s.okB = true) (hx : FSm 900000 x) (bx : x.big ≤ 1000000) : ref07_Q k s x = some (.mk k s [] [x]) := by
  unfold ref07_Q
  rw [bnd_eq (copyTy s (ok_sz hs)), bnd_eq (copyF hx bx)]
theorem frmEq_m {L : List Int} (hL : L.length ≤ 500) : ∀ (d m : Nat) (g : List Typ) (a : Nat), d ≤ 4 → d < m → (∀ u ∈ g, sm u) → g.length + d ≤ 16 → make_Formula_6d8_m m g d (Dk L a) = enF (mkFrm L d g a) := by
  intro d
  induction d with
  | zero =>
    intro m g a hd hm hg hl
    cases m with
    | zero => omega
    | succ m =>
      show make_Formula_6d8_b (fun g d o => make_Formula_6d8_m m g d o) g ((0 : Nat) : Int) (Dk L a) = _
      exact frm3Eq hL hg (by omega) _ a
  | succ d ih =>
    intro m g a hd hm hg hl
    cases m with
    | zero => omega
    | succ m =>
      show make_Formula_6d8_b (fun g d o => make_Formula_6d8_m m g d o) g ((d + 1 : Nat) : Int) (Dk L a) = _
      have ew : w64 (((d + 1 : Nat) : Int) - 1) = (d : Int) := by rw [w64_id (by omega) (by omega)]; omega
      have ed : decide (((d + 1 : Nat) : Int) > 0) = true := decide_eq_true (by omega)
      have hp : 2 ^ d ≤ 2 ^ 4 := Nat.pow_le_pow_right (by omega) (by omega)
      have pr : ∀ (g : List Typ) (b : Nat), (∀ u ∈ g, sm u) → g.length + d ≤ 16 → make_Formula_6d8_m m g d (Dk L b) = enF (mkFrm L d g b) ∧ FSm 900000 (mkFrm L d g b).1 ∧ (mkFrm L d g b).1.big ≤ 1000000 := fun g b hg hl => by
        obtain ⟨q1, q2⟩ := mkFrm_ok L d g b hg hl
        have q3 := q1.sm (by omega)
        have q4 := q3.big
        exact ⟨ih m g b (by omega) (by omega) hg hl, q3, by omega⟩
      have p1 := fun b => (pr g b hg (by omega)).1
      have p2 := fun b => (pr g b hg (by omega)).2.1
      have p3 := fun b => (pr g b hg (by omega)).2.2
      unfold make_Formula_6d8_b make_Formula_6d8_k1 make_Formula_6d8_k2
      rw [ed, cond_true, bnd_eq (nextEq hL (by omega) a)]
      unfold mkFrm
      generalize next L 9 a = c
      have f3 := frm3Eq hL hg (by omega) ((Dk L a).At) c.2
      have t1 := type1Eq' hL c.2
      have t0 := type0Eq' hL c.2
      have s1 := mkType_sm L c.2
      have s0 := sm_t0 L c.2
      have l1 := longerEq g [(mkType L 1 c.2).1] (by simp; omega)
      have l0 := longerEq g [(mkType L 0 c.2).1] (by simp; omega)
      obtain ⟨r1, r2, r3⟩ := pr (g ++ [(mkType L 1 c.2).1]) (mkType L 1 c.2).2 (sext hg s1) (by simp; omega)
      have nx := nextEq hL (n := 2) (by omega) (mkType L 0 c.2).2
      obtain ⟨v1, v2, v3⟩ := pr (g ++ [(mkType L 0 c.2).1]) (next L 2 (mkType L 0 c.2).2).2 (sext hg s0) (by simp; omega)
      have hr := next_range L (mkType L 0 c.2).2 (n := 2) (by omega) (by omega)
      have w6 : w64 (6 + (next L 2 (mkType L 0 c.2).2).1) = 6 + (next L 2 (mkType L 0 c.2).2).1 := w64_id (by omega) (by omega)
      simp only [ew, p1, bnd_some, twoEq (p2 _) (p2 _) (p3 _) (p3 _), t1, t0, l1, l0, r1, nx, v1, w6, qEq (sm_ok s1) r2 r3, qEq (sm_ok s0) v2 v3, f3]
      cases e0 : c.1 == 0 <;> cases e1 : c.1 == 1 <;> cases e2 : c.1 == 2 <;> cases e3 : c.1 == 3 <;> cases e4 : c.1 == 4 <;> cases e5 : c.1 == 5 <;> cases e6 : c.1 == 6 <;> first | rfl | (exfalso; simp only [beq_iff_eq] at *; omega)
theorem frmEq {L : List Int} (hL : L.length ≤ 500) {g : List Typ} (hg : ∀ u ∈ g, sm u) (hl : g.length ≤ 12) (a : Nat) : make_Formula_6d8 g 2 (Dk L a) = enF (mkFrm L 2 g a) := frmEq_m hL 2 FU g a (by omega) (by unfold FU; omega) hg (by omega)
/-! ### The law -/
theorem sane7 : law07_sane () = some true := by kernel_rfl
theorem lifts7_law (L : List Int) : law07_FormulaLifts L = some true := by
  unfold law07_FormulaLifts
  rw [bnd_eq sane7, Bool.not_true, cond_false]
  have hfew : make_Few L = some (decide (((L.length : Nat) : Int) ≤ 500)) := rfl
  rw [bnd_eq hfew]
  by_cases hL : L.length ≤ 500
  rotate_left
  · rw [decide_eq_false (by omega)]; rfl
  rw [decide_eq_true (by omega), Bool.not_true, cond_false]
  have hnew : make_New L = some (L, 0) := rfl
  rw [bnd_eq hnew]
  dsimp only
  rw [bnd_eq (show make_Context_6f7 ⟨L, 0⟩ = _ from ctxEq hL 0)]
  have hcl : (mkCtx L 0).1.length ≤ 3 := mkCtx_len L 0
  have hcs : ∀ u ∈ (mkCtx L 0).1, sm u := mkCtx_sm L 0
  generalize mkCtx L 0 = c at *
  have hco : ∀ u ∈ c.1, u.okB = true := fun u hu => sm_ok (hcs u hu)
  dsimp only
  rw [bnd_eq (frmEq hL hcs (by omega) c.2)]
  obtain ⟨f1, f2⟩ := mkFrm_ok L 2 c.1 c.2 hcs (by omega)
  generalize mkFrm L 2 c.1 c.2 = f at *
  dsimp only
  rw [bnd_eq (frmEq hL hcs (by omega) f.2)]
  obtain ⟨h1, h2⟩ := mkFrm_ok L 2 c.1 f.2 hcs (by omega)
  generalize mkFrm L 2 c.1 f.2 = h at *
  dsimp only
  have fs := f1.sm (by omega)
  have hs := h1.sm (by omega)
  have fb := fs.big
  rw [bnd_eq (liftFr fs (by omega))]
  dsimp only
  rw [bnd_eq (lowerFr fs (by omega)), bnd_eq (type1Eq' hL h.2)]
  have s1 := mkType_sm L h.2
  generalize mkType L 1 h.2 = s at *
  dsimp only
  have hf : fuelOk 100 2 s.1 := .inr ⟨by omega, by omega⟩
  have ht : make_Term_02b c.1 s.1 2 (Dk L s.2) = en2 (mkTerm L 100 2 c.1 s.1 s.2) := termEq hL 2 (by omega) c.1 s.1 s.2 (sm_ok s1) hco (by omega) hf
  rw [bnd_eq ht]
  have q1 := mkTerm_typed L 100 2 c.1 s.1 s.2 s1 hcs (by omega) hf
  have q2 := mkTerm_wt L (w := 1) (by omega) 100 2 c.1 s.1 s.2 s1 hcs hf
  have q3 := mkTerm_64k L 100 2 c.1 s.1 s.2 (sm_ok s1) hco hf (by omega)
  have q4 : ww 1 (Int.toNat 2) s.1 ≤ 76 := by unfold ww; split <;> decide
  have q5 : (mkTerm L 100 2 c.1 s.1 s.2).1.sz + (mkTerm L 100 2 c.1 s.1 s.2).1.cnt 0 0 * 0 ≤ (mkTerm L 100 2 c.1 s.1 s.2).1.wt 1 0 := wt_cnt 0 _ 0
  generalize mkTerm L 100 2 c.1 s.1 s.2 = y at *
  dsimp only
  rw [bnd_eq (putFr fs (by omega) (err_zero (shape_of q1) (by omega)) (by omega) (idxB_m1 (by omega) _ (idxB_of9 q1 (by omega)))), bnd_eq (notEq fs (by omega)), bnd_eq (orEq fs hs (by omega) (by omega))]
  dsimp only
  have tn : HasF c.1 (notF f.1) := .two (.inr rfl) f1 (fal_typed _)
  have nn : (notF f.1).nodes = 1 + f.1.nodes + 4 := by rw [notF, nodes_two]; rfl
  have to := or_typed f1 h1 (by omega) (by omega)
  obtain ⟨_, u2, _⟩ := fs.up 0 (by omega)
  obtain ⟨_, w2, _⟩ := hs.up 0 (by omega)
  have no : (orF (f.1.up 0) (h.1.up 0)).nodes = 15 + (f.1.up 0).nodes + (h.1.up 0).nodes := by
    simp only [orF, nodes_q, nodes_two]
    have e1 : isZ.nodes = 3 := rfl
    have e2 : falF.nodes = 4 := rfl
    rw [e1, e2]; omega
  have z1 := sameF fs (by omega)
  have z2 := typedF tn hco (by omega) (by omega)
  have z3 := typedF to hco (by omega) (by omega)
  simp only [z1, z2, z3, bnd_some, beq_self_eq_true, cond_true]
end Go.AM

/-
  Formulas: copies, comparisons, types.
-/
import Derived.Test.YtgilcibfknafiaaGreatDoorZgAnG
set_option linter.unusedVariables false
set_option linter.unusedSimpArgs false
set_option maxHeartbeats 4000000
namespace Go.AM
open Go
/-! ### Copies, comparisons -/
theorem ownTm_m (t : Trm) : ∀ m, t.sz ≤ m → t.big ≤ 1000000 → tree_Own_m m t = some t := by
  induction t using Trm.ind with
  | _ k i ty l ih =>
    intro m hm hs
    rw [Trm.sz_mk] at hm
    rw [Trm.big_mk] at hs
    cases m with
    | zero => omega
    | succ m =>
      have hl := bigTms_len l
      show tree_Own_b (fun t => tree_Own_m m t) (.mk k i ty l) = _
      unfold tree_Own_b
      show bnd (tree_OwnType ty) _ = _
      rw [bnd_eq (ownTy ty (by omega))]
      refine (loopL_push (f := fun a => a) (fun a ha => ih a ha m (by have : a.sz ≤ szTms l := szTms_mem ha; omega) (by have : a.big ≤ bigTms l := bigTms_mem ha; omega)) (by show 0 + l.length ≤ _; omega)).trans ?_
      simp
theorem ownTm (t : Trm) (h : t.big ≤ 1000000) : tree_Own t = some t := ownTm_m t FU (by have := t.sz_le_big; unfold FU; omega) h
theorem ownF_m {f : Frm} (h : FSm 900000 f) : ∀ (m : Nat) (b : Int), f.nodes ≤ m → f.big ≤ 1000000 → tree_RebuildFormula_b06_m m f b = some f := by
  induction h with
  | eq ha hb ia ib =>
    rename_i a b
    intro m n hm hn
    rw [nodes_eq] at hm
    rw [big_eq] at hn
    cases m with
    | zero => omega
    | succ m =>
      show tree_RebuildFormula_b06_b (fun f b => tree_RebuildFormula_b06_m m f b) (.mk 1 .zero [a, b] []) n = _
      unfold tree_RebuildFormula_b06_b tree_RebuildFormula_b06_k1 tree_OwnFormula_1
      simp only [Frm.ty_mk, Frm.terms_mk, Frm.args_mk, Frm.kind_mk, ownTy .zero (by decide), loopL_cons, loopL_nil, bnd_some, ownTm a (show a.big ≤ 1000000 by omega), ownTm b (show b.big ≤ 1000000 by omega), List.length_nil, List.length_cons, List.nil_append, List.cons_append, gd1 (show 0 + 1 ≤ 100 by omega), gd1 (show 0 + 1 + 1 ≤ 100 by omega), qu1, cond_false]
  | two hk hx hy ix iy =>
    rename_i k x y
    intro m n hm hn
    have h1 := (hx.ok (by omega)).nodes_pos
    have h2 := (hy.ok (by omega)).nodes_pos
    rw [nodes_two] at hm
    rw [big_two] at hn
    cases m with
    | zero => omega
    | succ m =>
      show tree_RebuildFormula_b06_b (fun f b => tree_RebuildFormula_b06_m m f b) (.mk k .zero [] [x, y]) n = _
      unfold tree_RebuildFormula_b06_b tree_RebuildFormula_b06_k1
      simp only [Frm.ty_mk, Frm.terms_mk, Frm.args_mk, Frm.kind_mk, ownTy .zero (by decide), loopL_cons, loopL_nil, bnd_some, List.length_nil, List.length_cons, List.nil_append, List.cons_append, gd1 (show 0 + 1 ≤ 100 by omega), gd1 (show 0 + 1 + 1 ≤ 100 by omega), qu2 hk, cond_false, ix m n (by omega) (by omega), iy m n (by omega) (by omega)]
  | q hk hs hx ih =>
    rename_i k s x
    intro m n hm hn
    have h1 := (hx.ok (by omega)).nodes_pos
    rw [nodes_q] at hm
    rw [big_q] at hn
    cases m with
    | zero => omega
    | succ m =>
      show tree_RebuildFormula_b06_b (fun f b => tree_RebuildFormula_b06_m m f b) (.mk k s [] [x]) n = _
      unfold tree_RebuildFormula_b06_b tree_RebuildFormula_b06_k1
      simp only [Frm.ty_mk, Frm.terms_mk, Frm.args_mk, Frm.kind_mk, ownTy s (ok_sz hs), loopL_cons, loopL_nil, bnd_some, List.length_nil, List.length_cons, List.nil_append, List.cons_append, gd1 (show 0 + 1 ≤ 100 by omega), qu4 hk, cond_true, ih m _ (by omega) (by omega)]
theorem ownF {f : Frm} (h : FSm 900000 f) (hb : f.big ≤ 1000000) : tree_OwnFormula f = some f := by
  unfold tree_OwnFormula; rw [bnd_id]
  exact ownF_m h FU 0 (by have := nodes_le_big (h.ok (by omega)); unfold FU; omega) hb
theorem copyF_m {f : Frm} (h : FSm 900000 f) : ∀ (m : Nat), f.nodes ≤ m → f.big ≤ 1000000 → ref07_Copy_m m f = some f := by
  induction h with
  | eq ha hb ia ib =>
    rename_i a b
    intro m hm hn
    rw [nodes_eq] at hm
    rw [big_eq] at hn
    cases m with
    | zero => omega
    | succ m =>
      show ref07_Copy_b (fun f => ref07_Copy_m m f) (.mk 1 .zero [a, b] []) = _
      unfold ref07_Copy_b
      simp only [Frm.ty_mk, Frm.terms_mk, Frm.args_mk, Frm.kind_mk, copyTy .zero (by decide), loopL_cons, loopL_nil, bnd_some, copyTm a (show a.big ≤ 1000000 by omega), copyTm b (show b.big ≤ 1000000 by omega), List.length_nil, List.length_cons, List.nil_append, List.cons_append, gd1 (show 0 + 1 ≤ 100 by omega), gd1 (show 0 + 1 + 1 ≤ 100 by omega)]
  | two hk hx hy ix iy =>
    rename_i k x y
    intro m hm hn
    have h1 := (hx.ok (by omega)).nodes_pos
    have h2 := (hy.ok (by omega)).nodes_pos
    rw [nodes_two] at hm
    rw [big_two] at hn
    cases m with
    | zero => omega
    | succ m =>
      show ref07_Copy_b (fun f => ref07_Copy_m m f) (.mk k .zero [] [x, y]) = _
      unfold ref07_Copy_b
      simp only [Frm.ty_mk, Frm.terms_mk, Frm.args_mk, Frm.kind_mk, copyTy .zero (by decide), loopL_cons, loopL_nil, bnd_some, List.length_nil, List.length_cons, List.nil_append, List.cons_append, gd1 (show 0 + 1 ≤ 100 by omega), gd1 (show 0 + 1 + 1 ≤ 100 by omega), ix m (by omega) (by omega), iy m (by omega) (by omega)]
  | q hk hs hx ih =>
    rename_i k s x
    intro m hm hn
    have h1 := (hx.ok (by omega)).nodes_pos
    rw [nodes_q] at hm
    rw [big_q] at hn
    cases m with
    | zero => omega
    | succ m =>
      show ref07_Copy_b (fun f => ref07_Copy_m m f) (.mk k s [] [x]) = _
      unfold ref07_Copy_b
      simp only [Frm.ty_mk, Frm.terms_mk, Frm.args_mk, Frm.kind_mk, copyTy s (ok_sz hs), loopL_cons, loopL_nil, bnd_some, List.length_nil, List.length_cons, List.nil_append, List.cons_append, gd1 (show 0 + 1 ≤ 100 by omega), ih m (by omega) (by omega)]
theorem copyF {f : Frm} (h : FSm 900000 f) (hb : f.big ≤ 1000000) : ref07_Copy f = some f :=
  copyF_m h FU (by have := nodes_le_big (h.ok (by omega)); unfold FU; omega) hb
theorem sameT1 {t : Typ} (h : t.sz ≤ 1000000) : ref01_Same t t = some true := by rw [sameTyEq t t h, same_refl]
theorem sameTm1 {t : Trm} (h : t.big ≤ 1000000) : ref02_Same t t = some true := by rw [sameTmEq t t h, (sameTm_eq t t).2 rfl]
theorem sameF_m {f : Frm} (h : FSm 900000 f) : ∀ (m : Nat), f.nodes ≤ m → f.big ≤ 1000000 → ref07_Same_m m f f = some true := by
  have i0 : ∀ {α R : Type} (a : α) (l : List α) (k : α → Option R), idx (a :: l) ((0 : Nat) : Int) k = k a := fun a l k => rfl
  have i1 : ∀ {α R : Type} (a b : α) (l : List α) (k : α → Option R), idx (a :: b :: l) ((0 + 1 : Nat) : Int) k = k b := fun a b l k => rfl
  induction h with
  | eq ha hb ia ib =>
    rename_i a b
    intro m hm hn
    rw [nodes_eq] at hm
    rw [big_eq] at hn
    cases m with
    | zero => omega
    | succ m =>
      show ref07_Same_b (fun f g => ref07_Same_m m f g) (.mk 1 .zero [a, b] []) (.mk 1 .zero [a, b] []) = _
      unfold ref07_Same_b ref02_SameAll
      simp only [Frm.ty_mk, Frm.terms_mk, Frm.args_mk, Frm.kind_mk, bne_self_eq_false, cond_false, sameT1 (show Typ.zero.sz ≤ 1000000 by decide), bnd_some, Bool.not_true, loopL_cons, loopL_nil, i0, i1, sameTm1 (show a.big ≤ 1000000 by omega), sameTm1 (show b.big ≤ 1000000 by omega)]
  | two hk hx hy ix iy =>
    rename_i k x y
    intro m hm hn
    have h1 := (hx.ok (by omega)).nodes_pos
    have h2 := (hy.ok (by omega)).nodes_pos
    rw [nodes_two] at hm
    rw [big_two] at hn
    cases m with
    | zero => omega
    | succ m =>
      show ref07_Same_b (fun f g => ref07_Same_m m f g) (.mk k .zero [] [x, y]) (.mk k .zero [] [x, y]) = _
      unfold ref07_Same_b ref02_SameAll
      simp only [Frm.ty_mk, Frm.terms_mk, Frm.args_mk, Frm.kind_mk, bne_self_eq_false, cond_false, sameT1 (show Typ.zero.sz ≤ 1000000 by decide), bnd_some, Bool.not_true, loopL_cons, loopL_nil, i0, i1, ix m (by omega) (by omega), iy m (by omega) (by omega)]
  | q hk hs hx ih =>
    rename_i k s x
    intro m hm hn
    have h1 := (hx.ok (by omega)).nodes_pos
    rw [nodes_q] at hm
    rw [big_q] at hn
    cases m with
    | zero => omega
    | succ m =>
      show ref07_Same_b (fun f g => ref07_Same_m m f g) (.mk k s [] [x]) (.mk k s [] [x]) = _
      unfold ref07_Same_b ref02_SameAll
      simp only [Frm.ty_mk, Frm.terms_mk, Frm.args_mk, Frm.kind_mk, bne_self_eq_false, cond_false, sameT1 (ok_sz hs), bnd_some, Bool.not_true, loopL_cons, loopL_nil, i0, i1, ih m (by omega) (by omega)]
theorem sameF {f : Frm} (h : FSm 900000 f) (hb : f.big ≤ 1000000) : ref07_Same f f = some true :=
  sameF_m h FU (by have := nodes_le_big (h.ok (by omega)); unfold FU; omega) hb
/-! ### Types, the second form -/
theorem sameTy2_m (t : Typ) : ∀ (m : Nat) (u : Typ), t.sz ≤ m → tree_SameType_m m t u = some (t.same u) := by
  induction t using Typ.ind with
  | _ k l ih =>
    intro m u hm
    obtain ⟨k', r⟩ := u
    rw [Typ.sz_mk] at hm
    cases m with
    | zero => omega
    | succ m =>
      show tree_SameType_b (fun a b => tree_SameType_m m a b) (.mk k l) (.mk k' r) = _
      unfold tree_SameType_b
      show cond (k != k') _ (cond (((l.length : Nat) : Int) != ((r.length : Nat) : Int)) _ _) = _
      simp only [Typ.same, nat_bne]
      by_cases hk : k = k'
      · subst hk
        rw [bne_self_eq_false, cond_false, beq_self_eq_true, Bool.true_and, sameTys_all2]
        by_cases hl : l.length = r.length
        · rw [show (l.length != r.length) = false by simp [hl], cond_false]
          refine (loopL_all2 (self := fun a b => tree_SameType_m m a b) (f := Typ.same) (l := l) (r := r) (i := 0) (fun a ha b _ => ih a ha m b (by have : a.sz ≤ szTys l := szTys_mem ha; omega)) (by omega)).trans ?_
          rw [List.drop_zero]
          cases all2 Typ.same l r <;> rfl
        · rw [show (l.length != r.length) = true by simpa using hl, cond_true, all2_len _ _ _ hl]
      · have e1 : (k != k') = true := by simpa using hk
        have e2 : (k == k') = false := by simpa using hk
        rw [e1, e2]; rfl
theorem sameTy2 {t : Typ} (h : t.okB = true) : tree_SameType t t = some true := by
  rw [show tree_SameType t t = _ from sameTy2_m t FU t (by have := ok_sz h; unfold FU; omega), same_refl]
def ofT (u : Typ) : S_typing_Sized := ⟨u, (u.sz : Int)⟩
theorem typOf {u : Typ} (h : u.okB = true) : typing_Of u = some (ofT u) := by
  have hc := checkType u (ok_sz h)
  rw [err0 h, if_pos rfl] at hc
  unfold typing_Of
  rw [bnd_eq hc]; rfl
theorem typFrom {l : List Typ} (h : ∀ a ∈ l, a.okB = true) (hl : l.length ≤ 1000) : typing_From l = some (l.map ofT) := by
  unfold typing_From
  refine (loopL_push (f := ofT) (fun a ha => typOf (h a ha)) (by show 0 + l.length ≤ _; omega)).trans ?_
  simp
theorem typ_ok {g : List Typ} {t : Trm} {u : Typ} (h : HasT g t u) (hg : ∀ a ∈ g, a.okB = true) : u.okB = true := by
  have := infer_ok t g (shape_of h) hg (by rw [infer_of h])
  rw [infer_of h] at this
  exact this
theorem typSame {u : Typ} (h : u.okB = true) : typing_Sized_same (ofT u) (ofT u) = some true := by
  unfold typing_Sized_same
  rw [beq_self_eq_true, cond_true]
  show bnd (tree_SameType u u) _ = _
  rw [sameTy2 h]; rfl
theorem typPart0 {k : Int} {x y : Typ} (h : x.okB = true) : typing_Sized_part (ofT (.mk k [x, y])) 0 = some (ofT x) := by
  show bnd (typing_Of x) _ = _
  rw [bnd_eq (typOf h)]
theorem typPart1 {k : Int} {x y : Typ} (h : y.okB = true) : typing_Sized_part (ofT (.mk k [x, y])) 1 = some (ofT y) := by
  show bnd (typing_Of y) _ = _
  rw [bnd_eq (typOf h)]
theorem typJoin {k : Int} {x y : Typ} (h : (Typ.mk k [x, y]).okB = true) : typing_join k (ofT x) (ofT y) = some (ofT (.mk k [x, y]), 0) := by
  have hz := (okB_iff.1 h).2
  have hs : (Typ.mk k [x, y]).sz = 1 + x.sz + y.sz := by simp [Typ.sz, szTys]; omega
  rw [hs] at hz
  unfold typing_join
  have e : w64 (w64 (1 + (ofT x).nodes) + (ofT y).nodes) = (((Typ.mk k [x, y]).sz : Nat) : Int) := by
    show w64 (w64 (1 + (x.sz : Int)) + (y.sz : Int)) = _
    rw [w64_id (x := 1 + (x.sz : Int)) (by omega) (by omega), w64_id (by omega) (by omega), hs]; omega
  rw [e, decide_eq_false (by omega)]
  rfl
theorem ok_parts {k : Int} {x y : Typ} (hk : k = 3 ∨ k = 4) (h : (Typ.mk k [x, y]).okB = true) : x.okB = true ∧ y.okB = true := by
  obtain ⟨a, b, e, ha, hb, _, _, _⟩ := two_args h (by simpa using hk)
  injection e with _ e
  injection e with e1 e2
  injection e2 with e2 _
  subst e1; subst e2
  exact ⟨ha, hb⟩
def z3 : S_3_typing_Sized := ⟨⟨.mk 0 [], 0⟩, ⟨.mk 0 [], 0⟩, ⟨.mk 0 [], 0⟩⟩
theorem sw0 {R : Type} {f : Unit → Option R} {l : List (Unit → Option R)} : sw ((0 : Nat) : Int) 0 (f :: l) = f () := rfl
theorem sw1 {R : Type} {f g : Unit → Option R} {l : List (Unit → Option R)} : sw ((0 + 1 : Nat) : Int) 0 (f :: g :: l) = g () := rfl
theorem sw2 {R : Type} {f g h : Unit → Option R} {l : List (Unit → Option R)} : sw ((0 + 1 + 1 : Nat) : Int) 0 (f :: g :: h :: l) = h () := rfl
theorem typeOfEq {g : List Typ} {t : Trm} {u : Typ} (h : HasT g t u) : ∀ m : Nat, t.sz ≤ m → (∀ a ∈ g, a.okB = true) → g.length + t.sz ≤ 100000 → typing_Context_TypeOf_m m (g.map ofT) t = some (ofT u, 0) := by
  have pos : ∀ (t : Trm), 1 ≤ t.sz := Trm.sz_pos
  induction h with
  | @var g i h =>
    intro m hm hg hl
    cases m with
    | zero => have := pos (.var i); omega
    | succ m =>
      show typing_Context_TypeOf_b (fun c t => typing_Context_TypeOf_m m c t) (g.map ofT) (.mk 1 i .zero []) = _
      unfold typing_Context_TypeOf_b
      show cond (decide ((i : Int) ≥ (((g.map ofT).length : Nat) : Int))) _ (idx (g.map ofT) (w64 (w64 ((((g.map ofT).length : Nat) : Int) - 1) - (i : Int))) _) = _
      rw [List.length_map, decide_eq_false (by omega), cond_false, w64_id (x := ((g.length : Nat) : Int) - 1) (by omega) (by omega), w64_id (by omega) (by omega)]
      rw [show ((g.length : Nat) : Int) - 1 - (i : Int) = ((g.length - 1 - i : Nat) : Int) by omega]
      have : (g.map ofT)[g.length - 1 - i]? = some (ofT (tyAt g i)) := by
        rw [List.getElem?_map, getD_rev g i h]; rfl
      rw [idx_nat this]
  | @lam g s b u h1 h2 h3 ih =>
    intro m hm hg hl
    rw [sz_tm1] at hm hl
    cases m with
    | zero => omega
    | succ m =>
      show typing_Context_TypeOf_b (fun c t => typing_Context_TypeOf_m m c t) (g.map ofT) (.mk 2 0 s [b]) = _
      unfold typing_Context_TypeOf_b
      show bnd (typing_Of s) _ = _
      rw [bnd_eq (typOf h1), cut_ok (by omega) (by omega) (by omega)]
      have e : ((g.map ofT).take (((g.map ofT).length : Nat) : Int).toNat).drop (0 : Int).toNat = g.map ofT := by
        rw [Int.toNat_natCast, List.take_of_length_le (Nat.le_refl _)]; rfl
      rw [e, gd_ok (by rw [List.length_map]; omega)]
      have hi := ih m (by omega) (ext hg h1) (by simp; omega)
      rw [List.map_append] at hi
      show bnd (typing_Context_TypeOf_m m (g.map ofT ++ [ofT s]) b) _ = _
      rw [show g.map ofT ++ [ofT s] = g.map ofT ++ [s].map ofT from rfl, bnd_eq hi]
      show bnd (typing_join 4 (ofT s) (ofT u)) _ = _
      rw [bnd_eq (typJoin h2)]
      rfl
  | @app g f a s u hf ha i1 i2 =>
    intro m hm hg hl
    rw [tm, sz_tm2] at hm hl
    cases m with
    | zero => omega
    | succ m =>
      have ok := typ_ok hf hg
      obtain ⟨os, ou⟩ := ok_parts (.inr rfl) ok
      show typing_Context_TypeOf_b (fun c t => typing_Context_TypeOf_m m c t) (g.map ofT) (.mk 3 0 .zero [f, a]) = _
      unfold typing_Context_TypeOf_b
      simp only [Trm.kind_mk, Trm.args_mk, Int.reduceBEq, loopL_cons, loopL_nil, i1 m (by omega) hg (by omega), i2 m (by omega) hg (by omega), bnd_some, bne_self_eq_false, cond_false, sw0, sw1]
      show bnd (bnd (typing_Sized_part (ofT (.mk 4 [s, u])) 0) _) _ = _
      rw [bnd_eq (typPart0 os)]
      show bnd (bnd (typing_Sized_same (ofT s) (ofT s)) _) _ = _
      rw [bnd_eq (typSame os)]
      show bnd (bnd (typing_Sized_part (ofT (.mk 4 [s, u])) 1) _) _ = _
      rw [bnd_eq (typPart1 ou)]
      rfl
  | zero =>
    intro m hm hg hl
    cases m with
    | zero => have := pos (tm 4 []); omega
    | succ m => rfl
  | @succ g a h ih =>
    intro m hm hg hl
    rw [tm, sz_tm1] at hm hl
    cases m with
    | zero => omega
    | succ m =>
      show typing_Context_TypeOf_b (fun c t => typing_Context_TypeOf_m m c t) (g.map ofT) (.mk 5 0 .zero [a]) = _
      unfold typing_Context_TypeOf_b
      simp only [Trm.kind_mk, Trm.args_mk, Int.reduceBEq, loopL_cons, loopL_nil, ih m (by omega) hg (by omega), bnd_some, bne_self_eq_false, cond_false, sw0]
      rfl
  | @recu g s a b c hs ha hb hc i2 i3 i4 =>
    intro m hm hg hl
    rw [sz_tm3] at hm hl
    cases m with
    | zero => omega
    | succ m =>
      have okb := typ_ok hb hg
      show typing_Context_TypeOf_b (fun c t => typing_Context_TypeOf_m m c t) (g.map ofT) (.mk 6 0 s [a, b, c]) = _
      unfold typing_Context_TypeOf_b
      simp only [Trm.kind_mk, Trm.args_mk, Int.reduceBEq, loopL_cons, loopL_nil, i2 m (by omega) hg (by omega), i3 m (by omega) hg (by omega), i4 m (by omega) hg (by omega), bnd_some, bne_self_eq_false, cond_false, sw0, sw1, sw2]
      show bnd (bnd (typing_Of s) fun r52 => typing_node_k2 (.mk 6 0 s [a, b, c]) ⟨ofT s, ofT (.func .nat (.func s s)), ofT .nat⟩ r52 1) _ = _
      rw [bnd_eq (typOf hs)]
      unfold typing_node_k2
      show bnd (bnd (typing_Sized_same (ofT s) (ofT s)) _) _ = _
      rw [bnd_eq (typSame hs)]
      show bnd (bnd (tree_SameType (.func .nat (.func s s)) (.func .nat (.func s s))) _) _ = _
      rw [bnd_eq (sameTy2 okb)]
      rfl
  | nil =>
    intro m hm hg hl
    cases m with
    | zero => have := pos (tm 7 []); omega
    | succ m => rfl
  | @cons g a b ha hb i1 i2 =>
    intro m hm hg hl
    rw [tm, sz_tm2] at hm hl
    cases m with
    | zero => omega
    | succ m =>
      show typing_Context_TypeOf_b (fun c t => typing_Context_TypeOf_m m c t) (g.map ofT) (.mk 8 0 .zero [a, b]) = _
      unfold typing_Context_TypeOf_b
      simp only [Trm.kind_mk, Trm.args_mk, Int.reduceBEq, loopL_cons, loopL_nil, i1 m (by omega) hg (by omega), i2 m (by omega) hg (by omega), bnd_some, bne_self_eq_false, cond_false, sw0, sw1]
      rfl
  | @fold g s a b c hs ha hb hc i2 i3 i4 =>
    intro m hm hg hl
    rw [sz_tm3] at hm hl
    cases m with
    | zero => omega
    | succ m =>
      have okb := typ_ok hb hg
      show typing_Context_TypeOf_b (fun c t => typing_Context_TypeOf_m m c t) (g.map ofT) (.mk 9 0 s [a, b, c]) = _
      unfold typing_Context_TypeOf_b
      simp only [Trm.kind_mk, Trm.args_mk, Int.reduceBEq, loopL_cons, loopL_nil, i2 m (by omega) hg (by omega), i3 m (by omega) hg (by omega), i4 m (by omega) hg (by omega), bnd_some, bne_self_eq_false, cond_false, sw0, sw1, sw2]
      show bnd (bnd (typing_Of s) fun r52 => typing_node_k2 (.mk 9 0 s [a, b, c]) ⟨ofT s, ofT (.func .nat (.func .list (.func s s))), ofT .list⟩ r52 2) _ = _
      rw [bnd_eq (typOf hs)]
      unfold typing_node_k2
      show bnd (bnd (typing_Sized_same (ofT s) (ofT s)) _) _ = _
      rw [bnd_eq (typSame hs)]
      show bnd (bnd (tree_SameType (.func .nat (.func .list (.func s s))) (.func .nat (.func .list (.func s s)))) _) _ = _
      rw [bnd_eq (sameTy2 okb)]
      rfl
  | @pair g a b s u hk ha hb i1 i2 =>
    intro m hm hg hl
    rw [tm, sz_tm2] at hm hl
    cases m with
    | zero => omega
    | succ m =>
      show typing_Context_TypeOf_b (fun c t => typing_Context_TypeOf_m m c t) (g.map ofT) (.mk 10 0 .zero [a, b]) = _
      unfold typing_Context_TypeOf_b
      simp only [Trm.kind_mk, Trm.args_mk, Int.reduceBEq, loopL_cons, loopL_nil, i1 m (by omega) hg (by omega), i2 m (by omega) hg (by omega), bnd_some, bne_self_eq_false, cond_false, sw0, sw1]
      show bnd (bnd (typing_join 3 (ofT s) (ofT u)) _) _ = _
      rw [bnd_eq (typJoin hk)]
      rfl
  | @fst g a s u ha ih =>
    intro m hm hg hl
    rw [tm, sz_tm1] at hm hl
    cases m with
    | zero => omega
    | succ m =>
      obtain ⟨os, ou⟩ := ok_parts (.inl rfl) (typ_ok ha hg)
      show typing_Context_TypeOf_b (fun c t => typing_Context_TypeOf_m m c t) (g.map ofT) (.mk 11 0 .zero [a]) = _
      unfold typing_Context_TypeOf_b
      simp only [Trm.kind_mk, Trm.args_mk, Int.reduceBEq, loopL_cons, loopL_nil, ih m (by omega) hg (by omega), bnd_some, bne_self_eq_false, cond_false, sw0]
      show bnd (bnd (typing_Sized_part (ofT (.mk 3 [s, u])) 0) _) _ = _
      rw [bnd_eq (typPart0 os)]
      rfl
  | @snd g a s u ha ih =>
    intro m hm hg hl
    rw [tm, sz_tm1] at hm hl
    cases m with
    | zero => omega
    | succ m =>
      obtain ⟨os, ou⟩ := ok_parts (.inl rfl) (typ_ok ha hg)
      show typing_Context_TypeOf_b (fun c t => typing_Context_TypeOf_m m c t) (g.map ofT) (.mk 12 0 .zero [a]) = _
      unfold typing_Context_TypeOf_b
      simp only [Trm.kind_mk, Trm.args_mk, Int.reduceBEq, loopL_cons, loopL_nil, ih m (by omega) hg (by omega), bnd_some, bne_self_eq_false, cond_false, sw0]
      show bnd (bnd (typing_Sized_part (ofT (.mk 3 [s, u])) 1) _) _ = _
      rw [bnd_eq (typPart1 ou)]
      rfl
  | unit =>
    intro m hm hg hl
    cases m with
    | zero => have := pos (tm 13 []); omega
    | succ m => rfl
end Go.AM

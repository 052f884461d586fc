/-
  Formulas: what the printed functions about them reckon, where the formula is right.
-/
import Derived.Test.YtgilcibfknafiaaGreatDoorQG0F
import Derived.Test.YtgilcibfknafiaaGreatDoorZgAnX
set_option linter.unusedVariables false
set_option linter.unusedSimpArgs false
set_option maxHeartbeats 4000000
namespace Go.AM
open Go
mutual
def Frm.nodes : Frm → Nat
  | .mk _ _ ts l => 1 + szTms ts + nodesF l
def nodesF : List Frm → Nat
  | [] => 0
  | a :: l => a.nodes + nodesF l
end
mutual
def Frm.big : Frm → Nat
  | .mk _ t ts l => 1 + t.sz + bigTms ts + bigF l
def bigF : List Frm → Nat
  | [] => 0
  | a :: l => a.big + bigF l
end
def quB (k : Int) : Bool := decide (k ≥ 4) && decide (k ≤ 7)
mutual
def Frm.up : Frm → Nat → Frm
  | .mk k t ts l, b => .mk k t (ts.map fun a => a.lift (b : Int) 1) (upF l (if quB k then b + 1 else b))
def upF : List Frm → Nat → List Frm
  | [], _ => []
  | a :: l, b => a.up b :: upF l b
end
/-- A right formula. -/
inductive FOk : Frm → Prop
  | eq {a b : Trm} (ha : a.shape = true) (hb : b.shape = true) (ia : a.idxB 1000000 = true) (ib : b.idxB 1000000 = true) : FOk (.mk 1 .zero [a, b] [])
  | two {k : Int} {x y : Frm} (hk : k = 2 ∨ k = 3) (hx : FOk x) (hy : FOk y) : FOk (.mk k .zero [] [x, y])
  | q {k : Int} {s : Typ} {x : Frm} (hk : k = 4 ∨ k = 5 ∨ k = 6 ∨ k = 7) (hs : s.okB = true) (hx : FOk x) : FOk (.mk k s [] [x])
theorem nodes_eq (a b : Trm) : (Frm.mk 1 .zero [a, b] []).nodes = 1 + a.sz + b.sz := by simp [Frm.nodes, nodesF, szTms]; omega
theorem nodes_two (k : Int) (x y : Frm) : (Frm.mk k .zero [] [x, y]).nodes = 1 + x.nodes + y.nodes := by simp [Frm.nodes, nodesF, szTms]; omega
theorem nodes_q (k : Int) (s : Typ) (x : Frm) : (Frm.mk k s [] [x]).nodes = 1 + x.nodes := by simp [Frm.nodes, nodesF, szTms]
theorem big_eq (a b : Trm) : (Frm.mk 1 .zero [a, b] []).big = 2 + a.big + b.big := by simp [Frm.big, bigF, bigTms, Typ.zero, Typ.sz, szTys]; omega
theorem big_two (k : Int) (x y : Frm) : (Frm.mk k .zero [] [x, y]).big = 2 + x.big + y.big := by simp [Frm.big, bigF, bigTms, Typ.zero, Typ.sz, szTys]; omega
theorem big_q (k : Int) (s : Typ) (x : Frm) : (Frm.mk k s [] [x]).big = 1 + s.sz + x.big := by simp [Frm.big, bigF, bigTms]
theorem up_eq (a b : Trm) (n : Nat) : (Frm.mk 1 .zero [a, b] []).up n = .mk 1 .zero [a.lift n 1, b.lift n 1] [] := by simp [Frm.up, upF]
theorem up_two {k : Int} (hk : k = 2 ∨ k = 3) (x y : Frm) (n : Nat) : (Frm.mk k .zero [] [x, y]).up n = .mk k .zero [] [x.up n, y.up n] := by rcases hk with rfl | rfl <;> simp [Frm.up, upF, quB]
theorem up_q {k : Int} (hk : k = 4 ∨ k = 5 ∨ k = 6 ∨ k = 7) (s : Typ) (x : Frm) (n : Nat) : (Frm.mk k s [] [x]).up n = .mk k s [] [x.up (n + 1)] := by rcases hk with rfl | rfl | rfl | rfl <;> simp [Frm.up, upF, quB]
theorem FOk.nodes_pos {f : Frm} (h : FOk f) : 1 ≤ f.nodes := by cases f; simp [Frm.nodes]; omega
theorem nodes_le_big {f : Frm} (h : FOk f) : f.nodes ≤ f.big := by
  induction h with
  | eq ha hb ia ib => rename_i a b; rw [nodes_eq, big_eq]; have := a.sz_le_big; have := b.sz_le_big; omega
  | two hk hx hy ix iy => rw [nodes_two, big_two]; omega
  | q hk hs hx ih => rename_i k s x; rw [nodes_q, big_q]; have := s.sz_pos; omega
theorem qu2 {k : Int} (hk : k = 2 ∨ k = 3) : tree_Quantifier k = some false := by rcases hk with rfl | rfl <;> rfl
theorem qu4 {k : Int} (hk : k = 4 ∨ k = 5 ∨ k = 6 ∨ k = 7) : tree_Quantifier k = some true := by rcases hk with rfl | rfl | rfl | rfl <;> rfl
theorem qu1 : tree_Quantifier 1 = some false := rfl
theorem err0 {s : Typ} (h : s.okB = true) : s.err = 0 := by have := Typ.err_ok s; rw [h, beq_iff_eq] at this; exact this
theorem formedEq {f : Frm} (h : FOk f) : tree_formed f = some true := by
  cases h with
  | eq ha hb => rfl
  | two hk hx hy => rcases hk with rfl | rfl <;> rfl
  | q hk hs hx =>
    rename_i k s x
    have hc := checkType s (ok_sz hs)
    rw [err0 hs] at hc
    rcases hk with rfl | rfl | rfl | rfl <;>
    · show bnd (tree_CheckType s) _ = _
      rw [hc]; rfl
theorem termNodesEq {t : Trm} (hs : t.shape = true) (hb : t.big ≤ 1000000) : tree_termNodes t = some (((t.sz : Nat) : Int), true) := by
  have := termNodes_m t FU (by have := t.sz_le_big; unfold FU; omega) hb
  rw [hs] at this
  exact this
theorem formulaNodes_m {f : Frm} (h : FOk f) : ∀ m : Nat, f.nodes ≤ m → f.big ≤ 1000000 → tree_formulaNodes_m m f = some (((f.nodes : Nat) : Int), true) := by
  induction h with
  | eq ha hb ia ib =>
    rename_i a b
    intro m hm hbig
    have hpos := (FOk.eq ha hb ia ib).nodes_pos
    rw [nodes_eq] at *
    rw [big_eq] at hbig
    have := a.sz_le_big; have := b.sz_le_big
    cases m with
    | zero => omega
    | succ m =>
      show tree_formulaNodes_b (fun f => tree_formulaNodes_m m f) (.mk 1 .zero [a, b] []) = _
      unfold tree_formulaNodes_b
      rw [bnd_eq (formedEq (FOk.eq ha hb ia ib))]
      simp only [Bool.not_true, cond_false, Frm.terms_mk, Frm.args_mk, loopL_cons, loopL_nil]
      rw [bnd_eq (termNodesEq ha (by omega))]
      simp only [Bool.not_true, cond_false]
      rw [bnd_eq (termNodesEq hb (by omega))]
      simp only [Bool.not_true, cond_false]
      rw [w64_id (x := 1 + (a.sz : Int)) (by omega) (by omega), w64_id (by omega) (by omega)]
      congr 2
  | two hk hx hy ix iy =>
    rename_i k x y
    intro m hm hbig
    have hpos := (FOk.two hk hx hy).nodes_pos
    have h1 := hx.nodes_pos
    have h2 := hy.nodes_pos
    rw [nodes_two] at *
    rw [big_two] at hbig
    have := nodes_le_big hx; have := nodes_le_big hy
    cases m with
    | zero => omega
    | succ m =>
      show tree_formulaNodes_b (fun f => tree_formulaNodes_m m f) (.mk k .zero [] [x, y]) = _
      unfold tree_formulaNodes_b
      rw [bnd_eq (formedEq (FOk.two hk hx hy))]
      simp only [Bool.not_true, cond_false, Frm.terms_mk, Frm.args_mk, loopL_cons, loopL_nil]
      rw [bnd_eq (ix m (by omega) (by omega))]
      simp only [Bool.not_true, cond_false]
      rw [bnd_eq (iy m (by omega) (by omega))]
      simp only [Bool.not_true, cond_false]
      rw [w64_id (x := 1 + (x.nodes : Int)) (by omega) (by omega), w64_id (by omega) (by omega)]
      congr 2
  | q hk hs hx ih =>
    rename_i k s x
    intro m hm hbig
    have h1 := hx.nodes_pos
    rw [nodes_q] at *
    rw [big_q] at hbig
    have := nodes_le_big hx
    cases m with
    | zero => omega
    | succ m =>
      show tree_formulaNodes_b (fun f => tree_formulaNodes_m m f) (.mk k s [] [x]) = _
      unfold tree_formulaNodes_b
      rw [bnd_eq (formedEq (FOk.q hk hs hx))]
      simp only [Bool.not_true, cond_false, Frm.terms_mk, Frm.args_mk, loopL_cons, loopL_nil]
      rw [bnd_eq (ih m (by omega) (by omega))]
      simp only [Bool.not_true, cond_false]
      rw [w64_id (by omega) (by omega)]
      rfl
theorem checkFrm {f : Frm} (h : FOk f) (hb : f.big ≤ 1000000) (hn : f.nodes ≤ 4096) : tree_CheckFormula f = some (((f.nodes : Nat) : Int), 0) := by
  unfold tree_CheckFormula
  rw [bnd_eq (show tree_formulaNodes f = _ from formulaNodes_m h FU (by unfold FU; omega) hb)]
  simp only [Bool.not_true, cond_false]
  rw [decide_eq_false (by omega)]; rfl
theorem checkF {f : Frm} (h : FOk f) (hb : f.big ≤ 1000000) (hn : f.nodes ≤ 4096) : formula_Check f = some 0 := by
  unfold formula_Check; rw [bnd_eq (checkFrm h hb hn)]
theorem sizeF {f : Frm} (h : FOk f) (hb : f.big ≤ 1000000) (hn : f.nodes ≤ 4096) : formula_Size f = some (((f.nodes : Nat) : Int), 0) := by
  unfold formula_Size; rw [bnd_eq (checkFrm h hb hn)]
theorem idxB_m1 {N N' : Int} (h : N ≤ N') (t : Trm) : t.idxB N = true → t.idxB N' = true := by
  induction t using Trm.ind with
  | _ k i ty l ih =>
    intro hi
    simp only [Trm.idxB, Bool.and_eq_true, Bool.or_eq_true, idxBs_all, List.all_eq_true, decide_eq_true_eq] at hi ⊢
    exact ⟨hi.1.imp id fun h' => Int.le_trans h' h, fun a ha => ih a ha (hi.2 a ha)⟩
theorem nearT {t : Trm} (hi : t.idxB 1000000 = true) (hb : t.big ≤ 1000000) : tree_Near t = some true := by
  rw [nearEq t (by have := t.sz_le_big; omega), near_eq, idxB_m1 (by omega) t hi]
theorem nearF_m {f : Frm} (h : FOk f) : ∀ (m : Nat) (b : Int), f.nodes ≤ m → f.big ≤ 1000000 → tree_EachTerm_510_m m f b true = some true := by
  induction h with
  | eq ha hb ia ib =>
    rename_i a b
    intro m d hm hbig
    rw [nodes_eq] at hm
    rw [big_eq] at hbig
    cases m with
    | zero => omega
    | succ m =>
      show tree_EachTerm_510_b (fun f b s => tree_EachTerm_510_m m f b s) (.mk 1 .zero [a, b] []) d true = _
      unfold tree_EachTerm_510_b tree_EachTerm_510_k1 tree_NearFormula_1_c4e
      simp only [Frm.terms_mk, Frm.args_mk, Frm.kind_mk, loopL_cons, loopL_nil, cond_true, nearT ia (by omega), nearT ib (by omega), bnd_some, qu1, cond_false]
  | two hk hx hy ix iy =>
    rename_i k x y
    intro m d hm hbig
    have h1 := hx.nodes_pos
    have h2 := hy.nodes_pos
    rw [nodes_two] at hm
    rw [big_two] at hbig
    cases m with
    | zero => omega
    | succ m =>
      show tree_EachTerm_510_b (fun f b s => tree_EachTerm_510_m m f b s) (.mk k .zero [] [x, y]) d true = _
      unfold tree_EachTerm_510_b tree_EachTerm_510_k1
      simp only [Frm.terms_mk, Frm.args_mk, Frm.kind_mk, loopL_cons, loopL_nil, bnd_some, qu2 hk, cond_false, ix m d (by omega) (by omega), iy m d (by omega) (by omega)]
  | q hk hs hx ih =>
    rename_i k s x
    intro m d hm hbig
    have h1 := hx.nodes_pos
    rw [nodes_q] at hm
    rw [big_q] at hbig
    cases m with
    | zero => omega
    | succ m =>
      show tree_EachTerm_510_b (fun f b s => tree_EachTerm_510_m m f b s) (.mk k s [] [x]) d true = _
      unfold tree_EachTerm_510_b tree_EachTerm_510_k1
      simp only [Frm.terms_mk, Frm.args_mk, Frm.kind_mk, loopL_cons, loopL_nil, bnd_some, qu4 hk, cond_true, ih m _ (by omega) (by omega)]
theorem nearF {f : Frm} (h : FOk f) (hb : f.big ≤ 1000000) : tree_NearFormula f = some true := by
  unfold tree_NearFormula
  rw [bnd_id]
  exact nearF_m h FU 0 (by have := nodes_le_big h; unfold FU; omega) hb
/-! ### Lifting and lowering -/
theorem up_tm {t : Trm} (hs : t.shape = true) (hi : t.idxB 1000000 = true) (hz : t.sz ≤ 5000) {n : Nat} (hn : n ≤ 10000) : (t.lift n 1).shape = true ∧ (t.lift n 1).idxB 1000001 = true ∧ (t.lift n 1).sz = t.sz ∧ (t.lift n 1).big ≤ 65 * t.sz := by
  have h := idx_lift n 1 (by omega) 1000000 (by omega) t hs hi 0 (by omega)
  have h3 := sz_lift hs (n : Int) 1
  have h4 := big_of_shape (t.lift n 1) h.2
  exact ⟨h.2, h.1, h3, by rw [h3] at h4; exact h4⟩
/-- A right formula whose indexes are small. -/
inductive FSm : Int → Frm → Prop
  | eq {N : Int} {a b : Trm} (ha : a.shape = true) (hb : b.shape = true) (ia : a.idxB N = true) (ib : b.idxB N = true) : FSm N (.mk 1 .zero [a, b] [])
  | two {N : Int} {k : Int} {x y : Frm} (hk : k = 2 ∨ k = 3) (hx : FSm N x) (hy : FSm N y) : FSm N (.mk k .zero [] [x, y])
  | q {N : Int} {k : Int} {s : Typ} {x : Frm} (hk : k = 4 ∨ k = 5 ∨ k = 6 ∨ k = 7) (hs : s.okB = true) (hx : FSm N x) : FSm N (.mk k s [] [x])
theorem FSm.ok {N : Int} (hN : N ≤ 1000000) {f : Frm} (h : FSm N f) : FOk f := by
  induction h with
  | eq ha hb ia ib => exact .eq ha hb (idxB_m1 hN _ ia) (idxB_m1 hN _ ib)
  | two hk _ _ ix iy => exact .two hk ix iy
  | q hk hs _ ix => exact .q hk hs ix
theorem FSm.up {f : Frm} (h : FSm 900000 f) : ∀ n : Nat, n + f.nodes ≤ 5000 → FOk (f.up n) ∧ (f.up n).nodes = f.nodes ∧ (f.up n).big ≤ 66 * f.nodes := by
  generalize hN : (900000 : Int) = N at h
  induction h with
  | eq ha hb ia ib =>
    subst hN
    rename_i a b
    intro n hn
    rw [nodes_eq] at *
    rw [up_eq, nodes_eq, big_eq]
    have i1 := idxB_m1 (N' := 1000000) (by omega) a ia
    have i2 := idxB_m1 (N' := 1000000) (by omega) b ib
    have ja := idx_lift n 1 (by omega) 900000 (by omega) a ha ia 0 (by omega)
    have jb := idx_lift n 1 (by omega) 900000 (by omega) b hb ib 0 (by omega)
    obtain ⟨a1, a2, a3, a4⟩ := up_tm ha i1 (by omega) (n := n) (by omega)
    obtain ⟨b1, b2, b3, b4⟩ := up_tm hb i2 (by omega) (n := n) (by omega)
    exact ⟨.eq a1 b1 (idxB_m1 (by omega) _ ja.1) (idxB_m1 (by omega) _ jb.1), by omega, by omega⟩
  | two hk hx hy ix iy =>
    rename_i k x y
    intro n hn
    rw [nodes_two] at *
    rw [up_two hk, nodes_two, big_two]
    obtain ⟨x1, x2, x3⟩ := ix n (by omega)
    obtain ⟨y1, y2, y3⟩ := iy n (by omega)
    exact ⟨.two hk x1 y1, by omega, by omega⟩
  | q hk hs hx ih =>
    rename_i k s x
    intro n hn
    rw [nodes_q] at *
    rw [up_q hk, nodes_q, big_q]
    have hz := (okB_iff.1 hs).2
    have hp := (hx.ok (by omega)).nodes_pos
    obtain ⟨x1, x2, x3⟩ := ih (n + 1) (by omega)
    exact ⟨.q hk hs x1, by omega, by omega⟩
theorem FSm.big {f : Frm} (h : FSm 900000 f) : f.big ≤ 66 * f.nodes := by
  induction h with
  | eq ha hb ia ib => rename_i a b; rw [nodes_eq, big_eq]; have := big_of_shape a ha; have := big_of_shape b hb; omega
  | two hk hx hy ix iy => rw [nodes_two, big_two]; omega
  | q hk hs hx ih => rw [nodes_q, big_q]; have := (okB_iff.1 hs).2; omega
theorem qn {n : Nat} (h : n ≤ 100000) : w64 ((n : Int) + 1) = ((n + 1 : Nat) : Int) := by rw [w64_id (by omega) (by omega)]; omega
theorem q0 {n : Nat} (h : n ≤ 100000) : w64 (0 + (n : Int)) = (n : Int) := by rw [w64_id (by omega) (by omega)]; omega
theorem gd1 {R : Type} {x : Option R} {n : Nat} (h : n ≤ 100) : gd n x = x := gd_ok (by omega)
theorem liftReb {f : Frm} (h : FSm 900000 f) : ∀ (m n : Nat), f.nodes ≤ m → n + f.nodes ≤ 5000 → tree_RebuildFormula_42c_m m f n 0 1 = some (f.up n) := by
  induction h with
  | eq ha hb ia ib =>
    rename_i a b
    intro m n hm hn
    rw [nodes_eq] at hm hn
    have ba := big_of_shape a ha
    have bb := big_of_shape b hb
    cases m with
    | zero => omega
    | succ m =>
      show tree_RebuildFormula_42c_b (fun f b o0 o1 => tree_RebuildFormula_42c_m m f b o0 o1) (.mk 1 .zero [a, b] []) n 0 1 = _
      unfold tree_RebuildFormula_42c_b tree_RebuildFormula_42c_k1 tree_LiftFormula_1_b49
      rw [up_eq]
      simp only [Frm.ty_mk, Frm.terms_mk, Frm.args_mk, Frm.kind_mk, ownTy .zero (by decide), loopL_cons, loopL_nil, bnd_some, q0 (show n ≤ 100000 by omega), liftEq a _ _ (show a.big ≤ 1000000 by omega), liftEq b _ _ (show b.big ≤ 1000000 by omega), List.length_nil, List.length_cons, List.nil_append, List.cons_append, gd1 (show 0 + 1 ≤ 100 by omega), gd1 (show 0 + 1 + 1 ≤ 100 by omega), qu1, cond_false]
  | two hk hx hy ix iy =>
    rename_i k x y
    intro m n hm hn
    have h1 := (hx.ok (by omega)).nodes_pos
    have h2 := (hy.ok (by omega)).nodes_pos
    rw [nodes_two] at hm hn
    cases m with
    | zero => omega
    | succ m =>
      show tree_RebuildFormula_42c_b (fun f b o0 o1 => tree_RebuildFormula_42c_m m f b o0 o1) (.mk k .zero [] [x, y]) n 0 1 = _
      unfold tree_RebuildFormula_42c_b tree_RebuildFormula_42c_k1
      rw [up_two hk]
      simp only [Frm.ty_mk, Frm.terms_mk, Frm.args_mk, Frm.kind_mk, ownTy .zero (by decide), loopL_cons, loopL_nil, bnd_some, List.length_nil, List.length_cons, List.nil_append, List.cons_append, gd1 (show 0 + 1 ≤ 100 by omega), gd1 (show 0 + 1 + 1 ≤ 100 by omega), qu2 hk, cond_false, ix m n (by omega) (by omega), iy m n (by omega) (by omega)]
  | q hk hs hx ih =>
    rename_i k s x
    intro m n hm hn
    have h1 := (hx.ok (by omega)).nodes_pos
    rw [nodes_q] at hm hn
    cases m with
    | zero => omega
    | succ m =>
      show tree_RebuildFormula_42c_b (fun f b o0 o1 => tree_RebuildFormula_42c_m m f b o0 o1) (.mk k s [] [x]) n 0 1 = _
      unfold tree_RebuildFormula_42c_b tree_RebuildFormula_42c_k1
      rw [up_q hk]
      simp only [Frm.ty_mk, Frm.terms_mk, Frm.args_mk, Frm.kind_mk, ownTy s (ok_sz hs), loopL_cons, loopL_nil, bnd_some, List.length_nil, List.length_cons, List.nil_append, List.cons_append, gd1 (show 0 + 1 ≤ 100 by omega), qu4 hk, cond_true, qn (show n ≤ 100000 by omega), ih m (n + 1) (by omega) (by omega)]
theorem downT {t : Trm} (hs : t.shape = true) (hi : t.idxB 900000 = true) (hz : t.sz ≤ 5000) {n : Nat} (hn : n ≤ 5000) (z : Trm) (hzb : z.big ≤ 1000000) : tree_Put (t.lift n 1) n z = some t ∧ tree_Count (t.lift n 1) n = some 0 := by
  have i1 := idxB_m1 (N' := 536870912) (by omega) t hi
  have pl := put_lift n (by omega) z t hs i1 0 (by omega)
  obtain ⟨a1, a2, a3, a4⟩ := up_tm hs (idxB_m1 (by omega) t hi) hz (n := n) (by omega)
  refine ⟨?_, ?_⟩
  · rw [putEq _ _ _ (by omega) hzb]; exact congrArg some pl.1
  · rw [countEq _ _ (by omega), (count_eq n (by omega) a1 (idxB_m1 (by omega) _ a2) (by omega)).1]
    exact congrArg (fun k : Nat => some ((k : Nat) : Int)) pl.2
theorem putReb {f : Frm} (h : FSm 900000 f) (z : Trm) (hzb : z.big ≤ 1000000) : ∀ (m n : Nat), f.nodes ≤ m → n + f.nodes ≤ 5000 → tree_RebuildFormula_2a2_m m (f.up n) n 0 z = some f := by
  induction h with
  | eq ha hb ia ib =>
    rename_i a b
    intro m n hm hn
    rw [nodes_eq] at hm hn
    cases m with
    | zero => omega
    | succ m =>
      rw [up_eq]
      show tree_RebuildFormula_2a2_b (fun f b o0 o1 => tree_RebuildFormula_2a2_m m f b o0 o1) (.mk 1 .zero [a.lift n 1, b.lift n 1] []) n 0 z = _
      unfold tree_RebuildFormula_2a2_b tree_RebuildFormula_2a2_k1 tree_PutFormula_1_f22
      simp only [Frm.ty_mk, Frm.terms_mk, Frm.args_mk, Frm.kind_mk, ownTy .zero (by decide), loopL_cons, loopL_nil, bnd_some, q0 (show n ≤ 100000 by omega), (downT ha ia (by omega) (show n ≤ 5000 by omega) z hzb).1, (downT hb ib (by omega) (show n ≤ 5000 by omega) z hzb).1, List.length_nil, List.length_cons, List.nil_append, List.cons_append, gd1 (show 0 + 1 ≤ 100 by omega), gd1 (show 0 + 1 + 1 ≤ 100 by omega), qu1, cond_false]
  | two hk hx hy ix iy =>
    rename_i k x y
    intro m n hm hn
    have h1 := (hx.ok (by omega)).nodes_pos
    have h2 := (hy.ok (by omega)).nodes_pos
    rw [nodes_two] at hm hn
    cases m with
    | zero => omega
    | succ m =>
      rw [up_two hk]
      show tree_RebuildFormula_2a2_b (fun f b o0 o1 => tree_RebuildFormula_2a2_m m f b o0 o1) (.mk k .zero [] [x.up n, y.up n]) n 0 z = _
      unfold tree_RebuildFormula_2a2_b tree_RebuildFormula_2a2_k1
      simp only [Frm.ty_mk, Frm.terms_mk, Frm.args_mk, Frm.kind_mk, ownTy .zero (by decide), loopL_cons, loopL_nil, bnd_some, List.length_nil, List.length_cons, List.nil_append, List.cons_append, gd1 (show 0 + 1 ≤ 100 by omega), gd1 (show 0 + 1 + 1 ≤ 100 by omega), qu2 hk, cond_false, ix m n (by omega) (by omega), iy m n (by omega) (by omega)]
  | q hk hs hx ih =>
    rename_i k s x
    intro m n hm hn
    have h1 := (hx.ok (by omega)).nodes_pos
    rw [nodes_q] at hm hn
    cases m with
    | zero => omega
    | succ m =>
      rw [up_q hk]
      show tree_RebuildFormula_2a2_b (fun f b o0 o1 => tree_RebuildFormula_2a2_m m f b o0 o1) (.mk k s [] [x.up (n + 1)]) n 0 z = _
      unfold tree_RebuildFormula_2a2_b tree_RebuildFormula_2a2_k1
      simp only [Frm.ty_mk, Frm.terms_mk, Frm.args_mk, Frm.kind_mk, ownTy s (ok_sz hs), loopL_cons, loopL_nil, bnd_some, List.length_nil, List.length_cons, List.nil_append, List.cons_append, gd1 (show 0 + 1 ≤ 100 by omega), qu4 hk, cond_true, qn (show n ≤ 100000 by omega), ih m (n + 1) (by omega) (by omega)]
theorem countReb {f : Frm} (h : FSm 900000 f) : ∀ (m n : Nat), f.nodes ≤ m → n + f.nodes ≤ 5000 → tree_EachTerm_863_m m (f.up n) n 0 0 = some 0 := by
  induction h with
  | eq ha hb ia ib =>
    rename_i a b
    intro m n hm hn
    rw [nodes_eq] at hm hn
    cases m with
    | zero => omega
    | succ m =>
      rw [up_eq]
      show tree_EachTerm_863_b (fun f b o0 o1 => tree_EachTerm_863_m m f b o0 o1) (.mk 1 .zero [a.lift n 1, b.lift n 1] []) n 0 0 = _
      unfold tree_EachTerm_863_b tree_EachTerm_863_k1 tree_CountFormula_1_b49
      have e0 : w64 (0 + 0) = 0 := by rw [w64_id (by omega) (by omega)]; rfl
      simp only [Frm.ty_mk, Frm.terms_mk, Frm.args_mk, Frm.kind_mk, loopL_cons, loopL_nil, bnd_some, q0 (show n ≤ 100000 by omega), (downT ha ia (by omega) (show n ≤ 5000 by omega) .zero (by decide)).2, (downT hb ib (by omega) (show n ≤ 5000 by omega) .zero (by decide)).2, e0, qu1, cond_false]
  | two hk hx hy ix iy =>
    rename_i k x y
    intro m n hm hn
    have h1 := (hx.ok (by omega)).nodes_pos
    have h2 := (hy.ok (by omega)).nodes_pos
    rw [nodes_two] at hm hn
    cases m with
    | zero => omega
    | succ m =>
      rw [up_two hk]
      show tree_EachTerm_863_b (fun f b o0 o1 => tree_EachTerm_863_m m f b o0 o1) (.mk k .zero [] [x.up n, y.up n]) n 0 0 = _
      unfold tree_EachTerm_863_b tree_EachTerm_863_k1
      simp only [Frm.ty_mk, Frm.terms_mk, Frm.args_mk, Frm.kind_mk, loopL_cons, loopL_nil, bnd_some, qu2 hk, cond_false, ix m n (by omega) (by omega), iy m n (by omega) (by omega)]
  | q hk hs hx ih =>
    rename_i k s x
    intro m n hm hn
    have h1 := (hx.ok (by omega)).nodes_pos
    rw [nodes_q] at hm hn
    cases m with
    | zero => omega
    | succ m =>
      rw [up_q hk]
      show tree_EachTerm_863_b (fun f b o0 o1 => tree_EachTerm_863_m m f b o0 o1) (.mk k s [] [x.up (n + 1)]) n 0 0 = _
      unfold tree_EachTerm_863_b tree_EachTerm_863_k1
      simp only [Frm.ty_mk, Frm.terms_mk, Frm.args_mk, Frm.kind_mk, loopL_cons, loopL_nil, bnd_some, qu4 hk, cond_true, qn (show n ≤ 100000 by omega), ih m (n + 1) (by omega) (by omega)]
theorem fw0 : formula_within 0 = some true := rfl
theorem fw1 : formula_within 1 = some true := rfl
theorem liftFr {f : Frm} (h : FSm 900000 f) (hn : f.nodes ≤ 4000) : formula_Lift f 0 1 = some (f.up 0, 0) := by
  have hb := h.big
  have e : tree_LiftFormula f 0 1 = some (f.up 0) := by
    unfold tree_LiftFormula; rw [bnd_id]; exact liftReb h FU 0 (by unfold FU; omega) (by omega)
  unfold formula_Lift
  rw [bnd_eq (checkF (h.ok (by omega)) (by omega) (by omega)), bnd_eq fw0, bnd_eq fw1, bnd_eq (nearF (h.ok (by omega)) (by omega)), bnd_eq e]
  rfl
theorem lowerFr {f : Frm} (h : FSm 900000 f) (hn : f.nodes ≤ 4000) : formula_Lower (f.up 0) 0 = some (f, 0) := by
  obtain ⟨u1, u2, u3⟩ := h.up 0 (by omega)
  have e1 : tree_CountFormula (f.up 0) 0 = some 0 := by
    unfold tree_CountFormula; rw [bnd_id]; exact countReb h FU 0 (by unfold FU; omega) (by omega)
  have e2 : tree_PutFormula (f.up 0) 0 (Trm.mk 0 0 (Typ.mk 0 ([] : List Typ)) ([] : List Trm)) = some f := by
    unfold tree_PutFormula; rw [bnd_id]; exact putReb h .zero (by decide) FU 0 (by unfold FU; omega) (by omega)
  unfold formula_Lower
  rw [bnd_eq (checkF u1 (by omega) (by omega)), bnd_eq fw0, bnd_eq e1, bnd_eq e2]
  rfl
theorem putFr {f : Frm} (h : FSm 900000 f) (hn : f.nodes ≤ 4000) {s : Trm} (hs : s.err = 0) (hb : s.big ≤ 1000000) (hi : s.idxB 1000000 = true) : formula_Put (f.up 0) 0 s = some (f, 0) := by
  obtain ⟨u1, u2, u3⟩ := h.up 0 (by omega)
  have hsz := s.sz_le_big
  have hsp := s.sz_pos
  have e1 : tree_CountFormula (f.up 0) 0 = some 0 := by
    unfold tree_CountFormula; rw [bnd_id]; exact countReb h FU 0 (by unfold FU; omega) (by omega)
  have e2 : tree_PutFormula (f.up 0) 0 s = some f := by
    unfold tree_PutFormula; rw [bnd_id]; exact putReb h s hb FU 0 (by unfold FU; omega) (by omega)
  have e3 := sizeTm s hb
  rw [hs, if_pos rfl] at e3
  unfold formula_Put
  rw [bnd_eq (sizeF u1 (by omega) (by omega)), bnd_eq fw0, bnd_eq e3, bnd_eq (nearF u1 (by omega)), bnd_eq (nearT hi (by omega)), bnd_eq e1, bnd_eq e2]
  have e4 : w64 ((((f.up 0).nodes : Nat) : Int) + w64 (0 * w64 (((s.sz : Nat) : Int) - 1))) = (((f.up 0).nodes : Nat) : Int) := by
    rw [Int.zero_mul, w64_id (x := 0) (by omega) (by omega), w64_id (by omega) (by omega)]; omega
  simp only [e4]
  rw [decide_eq_false (by omega)]
  rfl
end Go.AM

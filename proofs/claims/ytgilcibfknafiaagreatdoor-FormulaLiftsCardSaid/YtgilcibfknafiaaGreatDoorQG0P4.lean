/-
  The Go functions reckon what the printed ones do.
-/
import Derived.Test.YtgilcibfknafiaaGreatDoorQG0P3
set_option linter.unusedVariables false
set_option linter.unusedSimpArgs false
set_option maxRecDepth 20000
set_option maxHeartbeats 40000000
namespace Go.AM
open Go Go.RowKit Go.Proofs
theorem tree_Own_be (self : Trm → Option (Trm)) (hs : ∀ {t : Trm} {r : Trm}, self t = some r → Ev Tryz.prog GL 254 [.agg ((dTm t).map V.d)] [] (.agg ((dTm r).map V.d)) []) {t : Trm} {r : Trm} (h : tree_Own_b self t = some r) : Ev Tryz.prog GL 254 [.agg ((dTm t).map V.d)] [] (.agg ((dTm r).map V.d)) [] := by
  refine evb pg Tryz.func254 rfl (by kernel_rfl) 30 [.cell 2 52] rfl rfl rfl (fun E ι0 => ?_)
  refine rg pg ?_
  refine rgd pg ?_
  obtain ⟨r1, h2, h⟩ := bndB h
  refine callW0 (tree_OwnType_ev h2) rfl ?_
  refine Ask.mk (by kernel_rfl) ?_
  refine sq ?_
  refine rg pg ?_
  refine LenW.mk (dTms_len _) ?_
  refine wrcN 201 3 4 5 52 rfl rfl rfl ?_
  refine rangeK (X := List Trm) pg t.args _ rfl (fun x7 => [(2, .ptr 2 0), (3, .ptr 3 0), (15, .d (.slice (dTms t.args)))]) (fun x7 => [(2, some (.cells [.d (.int .i64 0), .d (.int .i64 0), .d (.int .i64 0), .d .nils, .d .nils] 52)), (3, some (.cells [.d (.int .i64 t.kind), .d (.int .i64 t.index), .d (.int .i64 r1.kind), .d (.slice (dTys r1.args)), .own (dTms x7) 201] 52)), (201, some (.row (dTms x7).length 5 52))]) [2, 3, 201] h rfl rfl rfl rfl (fun _ => ⟨rfl, rfl⟩) 15 rfl (dTms_len _) (fun k4 i5 a3 x7 _ g6 h => ?_) (fun x7 h => ?_)
  ·refine rg pg ?_
   refine IdxW.mk (Int.natCast_nonneg _) (dTms_get g6) rfl ?_
   refine rld pg ?_
   obtain ⟨r20, h21, h⟩ := bndB h
   refine callW0 (hs h21) rfl ?_
   refine Ask.mk ⟨rfl, rfl⟩ (BsW.mk (dTms_map [r20]).symm (dTms_sz _) ?_)
   obtain ⟨p22, h⟩ := gdB h
   refine Ask.mk ⟨rfl, rfl, rfl⟩ (AppW.mk (dTms_app _ _) (dTms_sz _) (dTms_sz _) (by rw [dTms_len, dTms_len]; exact p22) ?_)
   refine Ask.mk (by kernel_rfl) ?_
   exact jt (x7 ++ [r20]) h rfl rfl rfl
  ·refine rg pg ?_
   refine rt ?_
   obtain rfl := Option.some.inj h
   exact en rfl rfl
theorem tree_Own_me : ∀ (m : Nat) {t : Trm} {r : Trm}, tree_Own_m m t = some r → Ev Tryz.prog GL 254 [.agg ((dTm t).map V.d)] [] (.agg ((dTm r).map V.d)) []
  | 0, _, _, h => nomatch (show none = some _ from h)
  | m + 1, _, _, h => tree_Own_be (tree_Own_m m) (fun h => tree_Own_me m h) h
theorem tree_Own_ev {t : Trm} {r : Trm} (h : tree_Own t = some r) : Ev Tryz.prog GL 254 [.agg ((dTm t).map V.d)] [] (.agg ((dTm r).map V.d)) [] := tree_Own_me FU h
theorem tree_OwnFormula_1_ev {t : Trm} {__ : Int} {r : Trm} (h : tree_OwnFormula_1 t __ = some r) : Ev Tryz.prog GL 253 [.agg ((dTm t).map V.d), .d (.int .i64 __)] [] (.agg ((dTm r).map V.d)) [] := by
  refine evb pg Tryz.func253 rfl (by kernel_rfl) 7 [.cell 4 52] rfl rfl rfl (fun E ι0 => ?_)
  refine rg pg ?_
  refine rg pg ?_
  obtain ⟨r1, h2, h⟩ := bndB h
  refine callW0 (tree_Own_ev h2) rfl ?_
  refine rt ?_
  obtain rfl := Option.some.inj h
  exact en rfl rfl
theorem tree_RebuildFormula_b06_be (self : Frm → Int → Option (Frm)) (hs : ∀ {f : Frm} {below : Int} {r : Frm}, self f below = some r → Ev Tryz.prog GL 250 [.agg ((dFm f).map V.d), .d (.int .i64 below), .clo 253 []] [] (.agg ((dFm r).map V.d)) []) {f : Frm} {below : Int} {r : Frm} (h : tree_RebuildFormula_b06_b self f below = some r) : Ev Tryz.prog GL 250 [.agg ((dFm f).map V.d), .d (.int .i64 below), .clo 253 []] [] (.agg ((dFm r).map V.d)) [] := by
  refine evb pg Tryz.func250 rfl (by kernel_rfl) 58 [.cell 6 45] rfl rfl rfl (fun E ι0 => ?_)
  refine rg pg ?_
  refine rgd pg ?_
  obtain ⟨r1, h2, h⟩ := bndB h
  refine callW0 (tree_OwnType_ev h2) rfl ?_
  refine Ask.mk (by kernel_rfl) ?_
  refine sq ?_
  refine rg pg ?_
  refine LenW.mk (dTms_len _) ?_
  refine wrcN 201 7 3 5 52 rfl rfl rfl ?_
  refine rangeK (X := List Trm) pg f.terms _ rfl (fun x7 => [(1, .d (.int .i64 below)), (2, .clo 253 []), (3, .ptr 3 0), (6, .ptr 6 0), (7, .ptr 7 0), (19, .d (.slice (dTms f.terms)))]) (fun x7 => [(3, some (.cells ((dFm f).map V.d) 45)), (6, some (.cells [.d (.int .i64 0), .d (.int .i64 0), .d .nils, .d .nils, .d .nils] 45)), (7, some (.cells [.d (.int .i64 f.kind), .d (.int .i64 r1.kind), .d (.slice (dTys r1.args)), .own (dTms x7) 201, .d .nils] 45)), (201, some (.row (dTms x7).length 5 52))]) [3, 6, 7, 201] h rfl rfl rfl rfl (fun _ => ⟨rfl, rfl⟩) 19 rfl (dTms_len _) (fun k4 i5 a3 x7 _ g6 h => ?_) (fun x7 h => ?_)
  ·refine rg pg ?_
   refine IdxW.mk (Int.natCast_nonneg _) (dTms_get g6) rfl ?_
   refine rld pg ?_
   obtain ⟨r20, h21, h⟩ := bndB h
   refine callW0 (tree_OwnFormula_1_ev h21) rfl ?_
   refine Ask.mk ⟨rfl, rfl⟩ (BsW.mk (dTms_map [r20]).symm (dTms_sz _) ?_)
   obtain ⟨p22, h⟩ := gdB h
   refine Ask.mk ⟨rfl, rfl, rfl⟩ (AppW.mk (dTms_app _ _) (dTms_sz _) (dTms_sz _) (by rw [dTms_len, dTms_len]; exact p22) ?_)
   refine Ask.mk (by kernel_rfl) ?_
   exact jt (x7 ++ [r20]) h rfl rfl rfl
  ·refine join (fun x29 : Int => ⟨[(1, .d (.int .i64 x29)), (2, .clo 253 []), (3, .ptr 3 0), (6, .ptr 6 0), (7, .ptr 7 0)], [(3, some (.cells ((dFm f).map V.d) 45)), (6, some (.cells [.d (.int .i64 0), .d (.int .i64 0), .d .nils, .d .nils, .d .nils] 45)), (7, some (.cells [.d (.int .i64 f.kind), .d (.int .i64 r1.kind), .d (.slice (dTys r1.args)), .own (dTms x7) 201, .d .nils] 45)), (201, some (.row (dTms x7).length 5 52))], [3, 6, 7, 201]⟩) (fun x29 => tree_RebuildFormula_b06_k1 self f r1 x7 x29) r ?_ (fun x29 h => ?_)
   ·refine rg pg ?_
    obtain ⟨r25, h26, h⟩ := bndB h
    refine callW0 (tree_Quantifier_ev h26) rfl ?_
    refine cd h rfl (fun h hb27 => ?_) (fun h hb27 => ?_)
    ·refine rl pg ?_
     exact jt (w64 (below + 1)) h rfl rfl rfl
    ·refine sk ?_
     exact jt below h rfl rfl rfl
   ·refine sq ?_
    refine rg pg ?_
    refine LenW.mk (dFms_len _) ?_
    refine wrcN 202 7 4 5 45 rfl rfl rfl ?_
    refine rangeK (X := List Frm) pg f.args _ rfl (fun x34 => [(1, .d (.int .i64 x29)), (2, .clo 253 []), (6, .ptr 6 0), (7, .ptr 7 0), (41, .d (.slice (dFms f.args)))]) (fun x34 => [(6, some (.cells [.d (.int .i64 0), .d (.int .i64 0), .d .nils, .d .nils, .d .nils] 45)), (7, some (.cells [.d (.int .i64 f.kind), .d (.int .i64 r1.kind), .d (.slice (dTys r1.args)), .own (dTms x7) 201, .own (dFms x34) 202] 45)), (201, some (.row (dTms x7).length 5 52)), (202, some (.row (dFms x34).length 5 45))]) [6, 7, 201, 202] h rfl rfl rfl rfl (fun _ => ⟨rfl, rfl⟩) 41 rfl (dFms_len _) (fun k31 i32 a30 x34 _ g33 h => ?_) (fun x34 h => ?_)
    ·refine rg pg ?_
     refine IdxW.mk (Int.natCast_nonneg _) (dFms_get g33) rfl ?_
     refine rld pg ?_
     obtain ⟨r47, h48, h⟩ := bndB h
     refine callW0 (hs h48) rfl ?_
     refine Ask.mk ⟨rfl, rfl⟩ (BsW.mk (dFms_map [r47]).symm (dFms_sz _) ?_)
     obtain ⟨p49, h⟩ := gdB h
     refine Ask.mk ⟨rfl, rfl, rfl⟩ (AppW.mk (dFms_app _ _) (dFms_sz _) (dFms_sz _) (by rw [dFms_len, dFms_len]; exact p49) ?_)
     refine Ask.mk (by kernel_rfl) ?_
     exact jt (x34 ++ [r47]) h rfl rfl rfl
    ·refine rg pg ?_
     refine rt ?_
     obtain rfl := Option.some.inj h
     exact en rfl rfl
theorem tree_RebuildFormula_b06_me : ∀ (m : Nat) {f : Frm} {below : Int} {r : Frm}, tree_RebuildFormula_b06_m m f below = some r → Ev Tryz.prog GL 250 [.agg ((dFm f).map V.d), .d (.int .i64 below), .clo 253 []] [] (.agg ((dFm r).map V.d)) []
  | 0, _, _, _, h => nomatch (show none = some _ from h)
  | m + 1, _, _, _, h => tree_RebuildFormula_b06_be (tree_RebuildFormula_b06_m m) (fun h => tree_RebuildFormula_b06_me m h) h
theorem tree_RebuildFormula_b06_ev {f : Frm} {below : Int} {r : Frm} (h : tree_RebuildFormula_b06 f below = some r) : Ev Tryz.prog GL 250 [.agg ((dFm f).map V.d), .d (.int .i64 below), .clo 253 []] [] (.agg ((dFm r).map V.d)) [] := tree_RebuildFormula_b06_me FU h
theorem tree_OwnFormula_ev {f : Frm} {r : Frm} (h : tree_OwnFormula f = some r) : Ev Tryz.prog GL 161 [.agg ((dFm f).map V.d)] [] (.agg ((dFm r).map V.d)) [] := by
  refine evb pg Tryz.func161 rfl (by kernel_rfl) 5 [.cell 2 45] rfl rfl rfl (fun E ι0 => ?_)
  refine rg pg ?_
  refine rg pg ?_
  obtain ⟨r1, h2, h⟩ := bndB h
  refine callW0 (tree_RebuildFormula_b06_ev h2) rfl ?_
  refine rt ?_
  obtain rfl := Option.some.inj h
  exact en rfl rfl
theorem tree_Form_ev {kind : Int} {args : List Frm} {r : Frm} (h : tree_Form kind args = some r) : Ev Tryz.prog GL 160 [.d (.int .i64 kind), .d (.slice (dFms args))] [] (.agg ((dFm r).map V.d)) [] := by
  refine evb pg Tryz.func160 rfl (by kernel_rfl) 8 [.cell 4 45] rfl rfl rfl (fun E ι0 => ?_)
  refine rg pg ?_
  refine rg pg ?_
  refine rt ?_
  obtain rfl := Option.some.inj h
  exact en rfl rfl
theorem formula_sized_ev {f : Frm} {r : Frm × Int} (h : formula_sized f = some r) : Ev Tryz.prog GL 159 [.agg ((dFm f).map V.d)] [] (.tup [.agg ((dFm r.1).map V.d), .d (.int .i64 r.2)]) [] := by
  refine evb pg Tryz.func159 rfl (by kernel_rfl) 12 [.cell 2 45, .tmp 3] rfl rfl rfl (fun E ι0 => ?_)
  refine rg pg ?_
  refine sq ?_
  refine rg pg ?_
  obtain ⟨r1, h2, h⟩ := bndB h
  refine callW0 (formula_Check_ev h2) rfl ?_
  refine rg pg ?_
  refine cd h rfl (fun h hb3 => ?_) (fun h hb3 => ?_)
  ·refine rg pg ?_
   refine rt ?_
   obtain rfl := Option.some.inj h
   exact en rfl rfl
  ·refine sk ?_
   refine rg pg ?_
   refine rt ?_
   obtain rfl := Option.some.inj h
   exact en rfl rfl
theorem formula_Not_ev {f : Frm} {r : Frm × Int} (h : formula_Not f = some r) : Ev Tryz.prog GL 47 [.agg ((dFm f).map V.d)] [] (.tup [.agg ((dFm r.1).map V.d), .d (.int .i64 r.2)]) [] := by
  refine evb pg Tryz.func47 rfl (by kernel_rfl) 19 [.cell 2 45, .tmp 3] rfl rfl rfl (fun E ι0 => ?_)
  refine rg pg ?_
  refine sq ?_
  refine rg pg ?_
  obtain ⟨r1, h2, h⟩ := bndB h
  refine callW0 (formula_Check_ev h2) rfl ?_
  refine rg pg ?_
  refine cd h rfl (fun h hb3 => ?_) (fun h hb3 => ?_)
  ·refine rg pg ?_
   refine rt ?_
   obtain rfl := Option.some.inj h
   exact en rfl rfl
  ·refine sk ?_
   refine rg pg ?_
   obtain ⟨r4, h5, h⟩ := bndB h
   refine callW0 (tree_OwnFormula_ev h5) rfl ?_
   obtain ⟨r6, h7, h⟩ := bndB h
   refine callW0 (formula_False_ev h7) rfl ?_
   refine Ask.mk ⟨rfl, rfl⟩ (BsW.mk (dFms_map [r4, r6]).symm (dFms_sz _) ?_)
   obtain ⟨r8, h9, h⟩ := bndB h
   refine callW0 (tree_Form_ev h9) rfl ?_
   obtain ⟨r10, h11, h⟩ := bndB h
   refine callW0 (formula_sized_ev h11) rfl ?_
   refine rt ?_
   obtain rfl := Option.some.inj h
   exact en rfl rfl
theorem formula_Or_1_ev {_u : Unit} {r : Frm} (h : formula_Or_1 _u = some r) : Ev Tryz.prog GL 162 [] [] (.agg ((dFm r).map V.d)) [] := by
  refine evb pg Tryz.func162 rfl (by kernel_rfl) 4 [.cell 0 45] rfl rfl rfl (fun E ι0 => ?_)
  refine rg pg ?_
  refine rg pg ?_
  obtain ⟨r1, h2, h⟩ := bndB h
  refine callW0 (tree_Var_ev h2) rfl ?_
  obtain ⟨r3, h4, h⟩ := bndB h
  refine callW0 (tree_Of_ev h4) rfl ?_
  obtain ⟨r5, h6, h⟩ := bndB h
  refine callW0 (tree_Equation_ev h6) rfl ?_
  refine rt ?_
  obtain rfl := Option.some.inj h
  exact en rfl rfl
theorem tree_Nat_ev {_u : Unit} {r : Typ} (h : tree_Nat _u = some r) : Ev Tryz.prog GL 167 [] [] (.agg ((dTy r).map V.d)) [] := by
  refine evb pg Tryz.func167 rfl (by kernel_rfl) 2 [.cell 0 34] rfl rfl rfl (fun E ι0 => ?_)
  refine rg pg ?_
  refine rg pg ?_
  refine rt ?_
  obtain rfl := Option.some.inj h
  exact en rfl rfl
theorem tree_Quantified_ev {kind : Int} {t : Typ} {body : Frm} {r : Frm} (h : tree_Quantified kind t body = some r) : Ev Tryz.prog GL 166 [.d (.int .i64 kind), .agg ((dTy t).map V.d), .agg ((dFm body).map V.d)] [] (.agg ((dFm r).map V.d)) [] := by
  refine evb pg Tryz.func166 rfl (by kernel_rfl) 12 [.cell 6 45] rfl rfl rfl (fun E ι0 => ?_)
  refine rg pg ?_
  refine rg pg ?_
  refine Ask.mk ⟨rfl, rfl⟩ (BsW.mk (dFms_map [body]).symm (dFms_sz _) ?_)
  refine rt ?_
  obtain rfl := Option.some.inj h
  exact en rfl rfl
theorem formula_Or_ev {a : Frm} {b : Frm} {r : Frm × Int} (h : formula_Or a b = some r) : Ev Tryz.prog GL 48 [.agg ((dFm a).map V.d), .agg ((dFm b).map V.d)] [] (.tup [.agg ((dFm r.1).map V.d), .d (.int .i64 r.2)]) [] := by
  refine evb pg Tryz.func48 rfl (by kernel_rfl) 52 [.cell 4 45, .tmp 5] rfl rfl rfl (fun E ι0 => ?_)
  refine rg pg ?_
  refine rg pg ?_
  obtain ⟨r1, h2, h⟩ := bndB h
  refine callW0 (formula_Lift_ev h2) rfl ?_
  refine sq ?_
  refine rg pg ?_
  refine cd h rfl (fun h hb3 => ?_) (fun h hb3 => ?_)
  ·refine rg pg ?_
   refine rt ?_
   obtain rfl := Option.some.inj h
   exact en rfl rfl
  ·refine sk ?_
   refine rg pg ?_
   obtain ⟨r4, h5, h⟩ := bndB h
   refine callW0 (formula_Lift_ev h5) rfl ?_
   refine sq ?_
   refine rg pg ?_
   refine cd h rfl (fun h hb6 => ?_) (fun h hb6 => ?_)
   ·refine rg pg ?_
    refine rt ?_
    obtain rfl := Option.some.inj h
    exact en rfl rfl
   ·refine sk ?_
    refine rg pg ?_
    refine rgd pg ?_
    obtain ⟨r7, h8, h⟩ := bndB h
    refine callW0 (formula_Or_1_ev h8) rfl ?_
    refine Ask.mk ⟨rfl, rfl⟩ (BsW.mk (dFms_map [r7, r1.1]).symm (dFms_sz _) ?_)
    obtain ⟨r9, h10, h⟩ := bndB h
    refine callW0 (tree_Form_ev h10) rfl ?_
    refine Ask.mk (by kernel_rfl) ?_
    refine rgd pg ?_
    obtain ⟨r11, h12, h⟩ := bndB h
    refine callW0 (formula_Or_1_ev h12) rfl ?_
    obtain ⟨r13, h14, h⟩ := bndB h
    refine callW0 (formula_False_ev h14) rfl ?_
    refine Ask.mk ⟨rfl, rfl⟩ (BsW.mk (dFms_map [r11, r13]).symm (dFms_sz _) ?_)
    obtain ⟨r15, h16, h⟩ := bndB h
    refine callW0 (tree_Form_ev h16) rfl ?_
    refine Ask.mk ⟨rfl, rfl⟩ (BsW.mk (dFms_map [r15, r4.1]).symm (dFms_sz _) ?_)
    obtain ⟨r17, h18, h⟩ := bndB h
    refine callW0 (tree_Form_ev h18) rfl ?_
    refine Ask.mk (by kernel_rfl) ?_
    refine rgd pg ?_
    obtain ⟨r19, h20, h⟩ := bndB h
    refine callW0 (tree_Nat_ev h20) rfl ?_
    refine Ask.mk ⟨rfl, rfl⟩ (BsW.mk (dFms_map [r9, r17]).symm (dFms_sz _) ?_)
    obtain ⟨r21, h22, h⟩ := bndB h
    refine callW0 (tree_Form_ev h22) rfl ?_
    obtain ⟨r23, h24, h⟩ := bndB h
    refine callW0 (tree_Quantified_ev h24) rfl ?_
    obtain ⟨r25, h26, h⟩ := bndB h
    refine callW0 (formula_sized_ev h26) rfl ?_
    refine Ask.mk (by kernel_rfl) ?_
    refine rt ?_
    obtain rfl := Option.some.inj h
    exact en rfl rfl
theorem types_Check_ev {t : Typ} {r : Int} (h : types_Check t = some r) : Ev Tryz.prog GL 255 [.agg ((dTy t).map V.d)] [] (.d (.int .i64 r)) [] := by
  refine evb pg Tryz.func255 rfl (by kernel_rfl) 11 [.tmp 2] rfl rfl rfl (fun E ι0 => ?_)
  refine rg pg ?_
  refine rg pg ?_
  obtain ⟨r1, h2, h⟩ := bndB h
  refine callW0 (tree_CheckType_ev h2) rfl ?_
  refine rg pg ?_
  refine rt ?_
  obtain rfl := Option.some.inj h
  exact en rfl rfl
theorem types_Context_ev {l : List Typ} {r : Int} (h : types_Context l = some r) : Ev Tryz.prog GL 168 [.d (.slice (dTys l))] [] (.d (.int .i64 r)) [] := by
  refine evb pg Tryz.func168 rfl (by kernel_rfl) 21 [.tmp 2] rfl rfl rfl (fun E ι0 => ?_)
  refine rg pg ?_
  refine sq ?_
  refine rg pg ?_
  refine LenW.mk (dTys_len _) ?_
  refine cd h rfl (fun h hb1 => ?_) (fun h hb1 => ?_)
  ·refine rg pg ?_
   refine rt ?_
   obtain rfl := Option.some.inj h
   exact en rfl rfl
  ·refine sk ?_
   refine sq ?_
   refine rg pg ?_
   refine LenW.mk (dTys_len _) ?_
   refine rangeK (X := Unit) pg l _ rfl (fun x6 => [(9, .d (.slice (dTys l)))]) (fun x6 => []) [] h rfl rfl rfl rfl (fun _ => ⟨rfl, rfl⟩) 0 rfl (dTys_len _) (fun k3 i4 a2 x6 _ g5 h => ?_) (fun x6 h => ?_)
   ·refine rg pg ?_
    refine IdxW.mk (Int.natCast_nonneg _) (dTys_get g5) rfl ?_
    refine rg pg ?_
    obtain ⟨r10, h11, h⟩ := bndB h
    refine callW0 (types_Check_ev h11) rfl ?_
    refine rg pg ?_
    refine cd h rfl (fun h hb12 => ?_) (fun h hb12 => ?_)
    ·refine rg pg ?_
     refine rt ?_
     obtain rfl := Option.some.inj h
     exact en rfl rfl
    ·refine sk ?_
     exact jt () h rfl rfl rfl
   ·refine rg pg ?_
    refine rt ?_
    obtain rfl := Option.some.inj h
    exact en rfl rfl
theorem typing_Of_ev {t : Typ} {r : S_typing_Sized} (h : typing_Of t = some r) : Ev Tryz.prog GL 256 [.agg ((dTy t).map V.d)] [] (.agg ((cS_typing_Sized r).map V.d)) [] := by
  refine evb pg Tryz.func256 rfl (by kernel_rfl) 13 [.cell 2 221] rfl rfl rfl (fun E ι0 => ?_)
  refine rg pg ?_
  refine rg pg ?_
  obtain ⟨r1, h2, h⟩ := bndB h
  refine callW0 (tree_CheckType_ev h2) rfl ?_
  refine rg pg ?_
  refine rt ?_
  obtain rfl := Option.some.inj h
  exact en rfl rfl
theorem typing_From_ev {l : List Typ} {r : List S_typing_Sized} (h : typing_From l = some r) : Ev Tryz.prog GL 169 [.d (.slice (dTys l))] [] (.d (.slice (dS_typing_Sized r))) [] := by
  refine evb pg Tryz.func169 rfl (by kernel_rfl) 19 [.tmp 2] rfl rfl rfl (fun E ι0 => ?_)
  refine rg pg ?_
  refine rg pg ?_
  refine sq ?_
  refine rg pg ?_
  refine LenW.mk (dTys_len _) ?_
  refine wrN 201 3 3 221 rfl rfl ?_
  refine rangeK (X := List S_typing_Sized) pg l _ rfl (fun x5 => [(3, .own (dS_typing_Sized x5) 201), (6, .d (.slice (dTys l)))]) (fun x5 => [(201, some (.row (dS_typing_Sized x5).length 3 221))]) [201] h rfl rfl rfl rfl (fun _ => ⟨rfl, rfl⟩) 0 rfl (dTys_len _) (fun k2 i3 a1 x5 _ g4 h => ?_) (fun x5 h => ?_)
  ·refine rg pg ?_
   refine IdxW.mk (Int.natCast_nonneg _) (dTys_get g4) rfl ?_
   refine rl pg ?_
   obtain ⟨r18, h19, h⟩ := bndB h
   refine callW0 (typing_Of_ev h19) rfl ?_
   refine Ask.mk ⟨rfl, rfl⟩ (BsW.mk (dS_typing_Sized_map [r18]).symm (dS_typing_Sized_sz _) ?_)
   obtain ⟨p20, h⟩ := gdB h
   refine Ask.mk ⟨rfl, rfl, rfl⟩ (AppW.mk (dS_typing_Sized_app _ _) (dS_typing_Sized_sz _) (dS_typing_Sized_sz _) (by rw [dS_typing_Sized_len, dS_typing_Sized_len]; exact p20) ?_)
   exact jt (x5 ++ [r18]) h rfl rfl rfl
  ·refine rg pg ?_
   refine rt ?_
   obtain rfl := Option.some.inj h
   exact en rfl rfl
theorem typing_Context_With_ev {c : List S_typing_Sized} {l : List Typ} {r : List S_typing_Sized} (h : typing_Context_With c l = some r) : Ev Tryz.prog GL 257 [.d (.slice (dS_typing_Sized c)), .d (.slice (dTys l))] [] (.d (.slice (dS_typing_Sized r))) [] := by
  refine evb pg Tryz.func257 rfl (by kernel_rfl) 14 [.tmp 4] rfl rfl rfl (fun E ι0 => ?_)
  refine rg pg ?_
  refine rgd pg ?_
  refine LenW.mk (dS_typing_Sized_len _) ?_
  refine LenW.mk (dS_typing_Sized_len _) ?_
  obtain ⟨p1, p2, p3, h⟩ := cutB h
  refine Ask.mk rfl (CutW.mk (dS_typing_Sized_sz _) p1 p2 (by rw [dS_typing_Sized_len]; exact p3) (dS_typing_Sized_cut _ _ _) ?_)
  obtain ⟨r4, h5, h⟩ := bndB h
  refine callW0 (typing_From_ev h5) rfl ?_
  obtain ⟨p6, h⟩ := gdB h
  refine AppW.mk (dS_typing_Sized_app _ _) (dS_typing_Sized_sz _) (dS_typing_Sized_sz _) (by rw [dS_typing_Sized_len, dS_typing_Sized_len]; exact p6) ?_
  refine Ask.mk (by kernel_rfl) ?_
  refine rt ?_
  obtain rfl := Option.some.inj h
  exact en rfl rfl
theorem typing_join_ev {kind : Int} {a : S_typing_Sized} {b : S_typing_Sized} {r : S_typing_Sized × Int} (h : typing_join kind a b = some r) : Ev Tryz.prog GL 357 [.d (.int .i64 kind), .agg ((cS_typing_Sized a).map V.d), .agg ((cS_typing_Sized b).map V.d)] [] (.tup [.agg ((cS_typing_Sized r.1).map V.d), .d (.int .i64 r.2)]) [] := by
  refine evb pg Tryz.func357 rfl (by kernel_rfl) 27 [.cell 6 221, .tmp 7] rfl rfl rfl (fun E ι0 => ?_)
  refine rg pg ?_
  refine rg pg ?_
  refine sq ?_
  refine rg pg ?_
  refine cd h rfl (fun h hb1 => ?_) (fun h hb1 => ?_)
  ·refine rg pg ?_
   refine rt ?_
   obtain rfl := Option.some.inj h
   exact en rfl rfl
  ·refine sk ?_
   refine rg pg ?_
   refine Ask.mk ⟨rfl, rfl⟩ (BsW.mk (dTys_map [a.Type_, b.Type_]).symm (dTys_sz _) ?_)
   refine rt ?_
   obtain rfl := Option.some.inj h
   exact en rfl rfl
theorem typing_plain_ev {kind : Int} {r : List Int} (h : typing_plain kind = some r) : Ev Tryz.prog GL 370 [.d (.int .i64 kind)] [] (.d (.slice (dInts r))) [] := by
  refine evb pg Tryz.func370 rfl (by kernel_rfl) 19 [.tmp 2] rfl rfl rfl (fun E ι0 => ?_)
  refine rg pg ?_
  refine sq ?_
  refine rg pg ?_
  refine bk ?_
  refine rg pg ?_
  refine cd h rfl (fun h hb1 => ?_) (fun h hb1 => ?_)
  ·refine rg pg ?_
   refine Ask.mk ⟨rfl, rfl⟩ (BsW.mk (dInts_map [1]).symm (dInts_sz _) ?_)
   refine rt ?_
   obtain rfl := Option.some.inj h
   exact en rfl rfl
  ·refine rg pg ?_
   refine cd h rfl (fun h hb2 => ?_) (fun h hb2 => ?_)
   ·refine rg pg ?_
    refine Ask.mk ⟨rfl, rfl⟩ (BsW.mk (dInts_map [1, 1]).symm (dInts_sz _) ?_)
    refine rt ?_
    obtain rfl := Option.some.inj h
    exact en rfl rfl
   ·refine rg pg ?_
    refine cd h rfl (fun h hb3 => ?_) (fun h hb3 => ?_)
    ·refine rg pg ?_
     refine Ask.mk ⟨rfl, rfl⟩ (BsW.mk (dInts_map [2]).symm (dInts_sz _) ?_)
     refine rt ?_
     obtain rfl := Option.some.inj h
     exact en rfl rfl
    ·refine rg pg ?_
     refine cd h rfl (fun h hb4 => ?_) (fun h hb4 => ?_)
     ·refine rg pg ?_
      refine Ask.mk ⟨rfl, rfl⟩ (BsW.mk (dInts_map [2, 1, 2]).symm (dInts_sz _) ?_)
      refine rt ?_
      obtain rfl := Option.some.inj h
      exact en rfl rfl
     ·refine rg pg ?_
      refine cd h rfl (fun h hb5 => ?_) (fun h hb5 => ?_)
      ·refine rg pg ?_
       refine Ask.mk ⟨rfl, rfl⟩ (BsW.mk (dInts_map [5]).symm (dInts_sz _) ?_)
       refine rt ?_
       obtain rfl := Option.some.inj h
       exact en rfl rfl
      ·refine sk ?_
       refine rg pg ?_
       refine rt ?_
       obtain rfl := Option.some.inj h
       exact en rfl rfl
theorem typing_Sized_Is_ev {t : S_typing_Sized} {kind : Int} {r : Bool} (h : typing_Sized_Is t kind = some r) : Ev Tryz.prog GL 332 [.agg ((cS_typing_Sized t).map V.d), .d (.int .i64 kind)] [] (.d (.bool r)) [] := by
  refine evb pg Tryz.func332 rfl (by kernel_rfl) 10 [.tmp 4] rfl rfl rfl (fun E ι0 => ?_)
  refine rg pg ?_
  refine rg pg ?_
  refine rt ?_
  obtain rfl := Option.some.inj h
  exact en rfl rfl
theorem typing_Sized_part_ev {t : S_typing_Sized} {i : Int} {r : S_typing_Sized} (h : typing_Sized_part t i = some r) : Ev Tryz.prog GL 371 [.agg ((cS_typing_Sized t).map V.d), .d (.int .i64 i)] [] (.agg ((cS_typing_Sized r).map V.d)) [] := by
  refine evb pg Tryz.func371 rfl (by kernel_rfl) 12 [.cell 4 221] rfl rfl rfl (fun E ι0 => ?_)
  refine rg pg ?_
  refine rg pg ?_
  obtain ⟨a1, p2, g3, h⟩ := idxB h
  refine IdxW.mk p2 (dTys_get g3) rfl ?_
  obtain ⟨r4, h5, h⟩ := bndB h
  refine callW0 (typing_Of_ev h5) rfl ?_
  refine rt ?_
  obtain rfl := Option.some.inj h
  exact en rfl rfl
theorem tree_SameType_be (self : Typ → Typ → Option (Bool)) (hs : ∀ {a : Typ} {b : Typ} {r : Bool}, self a b = some r → Ev Tryz.prog GL 246 [.agg ((dTy a).map V.d), .agg ((dTy b).map V.d)] [] (.d (.bool r)) []) {a : Typ} {b : Typ} {r : Bool} (h : tree_SameType_b self a b = some r) : Ev Tryz.prog GL 246 [.agg ((dTy a).map V.d), .agg ((dTy b).map V.d)] [] (.d (.bool r)) [] := by
  refine evb pg Tryz.func246 rfl (by kernel_rfl) 38 [.tmp 4] rfl rfl rfl (fun E ι0 => ?_)
  refine rg pg ?_
  refine sq ?_
  refine rg pg ?_
  refine gwF h (fun h hb1 => ?_) (fun h hb1 => ?_)
  ·refine gf rfl ?_
   refine gf rfl ?_
   refine gf rfl ?_
   refine gf rfl ?_
   refine gf rfl ?_
   refine gf rfl ?_
   refine cdT rfl ?_
   refine rg pg ?_
   refine rt ?_
   obtain rfl := Option.some.inj h
   exact en rfl rfl
  ·refine gl rfl ?_
   refine gl rfl ?_
   refine LenW.mk (dTys_len _) ?_
   refine gl rfl ?_
   refine gl rfl ?_
   refine gl rfl ?_
   refine LenW.mk (dTys_len _) ?_
   refine gl rfl ?_
   refine cd h rfl (fun h hb2 => ?_) (fun h hb2 => ?_)
   ·refine rg pg ?_
    refine rt ?_
    obtain rfl := Option.some.inj h
    exact en rfl rfl
   ·refine sk ?_
    refine sq ?_
    refine rg pg ?_
    refine LenW.mk (dTys_len _) ?_
    refine rangeK (X := Unit) pg a.args _ rfl (fun x7 => [(3, .ptr 3 0), (22, .d (.slice (dTys a.args)))]) (fun x7 => [(3, some (.cells ((dTy b).map V.d) 34))]) [3] h rfl rfl rfl rfl (fun _ => ⟨rfl, rfl⟩) 14 rfl (dTys_len _) (fun k4 i5 a3 x7 _ g6 h => ?_) (fun x7 h => ?_)
    ·refine rg pg ?_
     refine IdxW.mk (Int.natCast_nonneg _) (dTys_get g6) rfl ?_
     refine rgd pg ?_
     obtain ⟨a14, p15, g16, h⟩ := idxB h
     refine IdxW.mk p15 (dTys_get g16) rfl ?_
     obtain ⟨r17, h18, h⟩ := bndB h
     refine callW0 (hs h18) rfl ?_
     refine Ask.mk (by kernel_rfl) ?_
     refine cd h rfl (fun h hb19 => ?_) (fun h hb19 => ?_)
     ·refine rg pg ?_
      refine rt ?_
      obtain rfl := Option.some.inj h
      exact en rfl rfl
     ·refine sk ?_
      exact jt () h rfl rfl rfl
    ·refine rg pg ?_
     refine rt ?_
     obtain rfl := Option.some.inj h
     exact en rfl rfl
theorem tree_SameType_me : ∀ (m : Nat) {a : Typ} {b : Typ} {r : Bool}, tree_SameType_m m a b = some r → Ev Tryz.prog GL 246 [.agg ((dTy a).map V.d), .agg ((dTy b).map V.d)] [] (.d (.bool r)) []
  | 0, _, _, _, h => nomatch (show none = some _ from h)
  | m + 1, _, _, _, h => tree_SameType_be (tree_SameType_m m) (fun h => tree_SameType_me m h) h
theorem tree_SameType_ev {a : Typ} {b : Typ} {r : Bool} (h : tree_SameType a b = some r) : Ev Tryz.prog GL 246 [.agg ((dTy a).map V.d), .agg ((dTy b).map V.d)] [] (.d (.bool r)) [] := tree_SameType_me FU h
theorem typing_Sized_same_ev {t : S_typing_Sized} {u : S_typing_Sized} {r : Bool} (h : typing_Sized_same t u = some r) : Ev Tryz.prog GL 372 [.agg ((cS_typing_Sized t).map V.d), .agg ((cS_typing_Sized u).map V.d)] [] (.d (.bool r)) [] := by
  refine evb pg Tryz.func372 rfl (by kernel_rfl) 17 [.tmp 4] rfl rfl rfl (fun E ι0 => ?_)
  refine rg pg ?_
  refine rg pg ?_
  refine gwT h (fun h hb1 => ?_) (fun h hb1 => ?_)
  ·refine gl rfl ?_
   refine gl rfl ?_
   refine gl rfl ?_
   refine gl rfl ?_
   obtain ⟨r2, h3, h⟩ := bndB h
   refine callW0 (tree_SameType_ev h3) rfl ?_
   refine rt ?_
   obtain rfl := Option.some.inj h
   exact en rfl rfl
  ·refine gf rfl ?_
   refine gf rfl ?_
   refine gf rfl ?_
   refine gf rfl ?_
   refine rt ?_
   obtain rfl := Option.some.inj h
   exact en rfl rfl
theorem tree_List_ev {_u : Unit} {r : Typ} (h : tree_List _u = some r) : Ev Tryz.prog GL 379 [] [] (.agg ((dTy r).map V.d)) [] := by
  refine evb pg Tryz.func379 rfl (by kernel_rfl) 2 [.cell 0 34] rfl rfl rfl (fun E ι0 => ?_)
  refine rg pg ?_
  refine rg pg ?_
  refine rt ?_
  obtain rfl := Option.some.inj h
  exact en rfl rfl
theorem tree_Fun_ev {result : Typ} {arguments : List Typ} {r : Typ} (h : tree_Fun result arguments = some r) : Ev Tryz.prog GL 378 [.agg ((dTy result).map V.d), .d (.slice (dTys arguments))] [] (.agg ((dTy r).map V.d)) [] := by
  refine evb pg Tryz.func378 rfl (by kernel_rfl) 21 [.cell 4 34] rfl rfl rfl (fun E ι0 => ?_)
  refine rg pg ?_
  refine sq ?_
  refine rg pg ?_
  refine LenW.mk (dTys_len _) ?_
  refine bk ?_
  refine loopK (X := Int × Typ) (fun x2 => ⟨[(1, .d (.slice (dTys arguments))), (2, .ptr 2 0), (4, .ptr 4 0), (5, .d (.int .i64 x2.1))], [(2, some (.cells ((dTy x2.2).map V.d) 34)), (4, some (.cells [.d (.int .i64 0), .d .nils] 34))], [2, 4]⟩) h rfl rfl rfl (fun k1 x2 h => ?_)
  refine sq ?_
  refine rg pg ?_
  refine cd h rfl (fun h hb17 => ?_) (fun h hb17 => ?_)
  ·refine sk ?_
   refine sq ?_
   refine bk ?_
   refine rld pg ?_
   obtain ⟨a18, p19, g20, h⟩ := idxB h
   refine IdxW.mk p19 (dTys_get g20) rfl ?_
   refine Ask.mk ⟨rfl, rfl⟩ (BsW.mk (dTys_map [a18, x2.2]).symm (dTys_sz _) ?_)
   refine Ask.mk (by kernel_rfl) ?_
   refine rl pg ?_
   exact jt ((w64 (x2.1 - 1)), (Typ.mk 4 [a18, x2.2])) h rfl rfl rfl
  ·refine ex ?_
   refine rg pg ?_
   refine rt ?_
   obtain rfl := Option.some.inj h
   exact en rfl rfl
theorem typing_step_ev {t : Trm} {r : Typ} (h : typing_step t = some r) : Ev Tryz.prog GL 373 [.agg ((dTm t).map V.d)] [] (.agg ((dTy r).map V.d)) [] := by
  refine evb pg Tryz.func373 rfl (by kernel_rfl) 21 [.cell 2 34] rfl rfl rfl (fun E ι0 => ?_)
  refine rg pg ?_
  refine sq ?_
  refine rg pg ?_
  refine cd h rfl (fun h hb1 => ?_) (fun h hb1 => ?_)
  ·refine rgd pg ?_
   obtain ⟨r2, h3, h⟩ := bndB h
   refine callW0 (tree_Nat_ev h3) rfl ?_
   obtain ⟨r4, h5, h⟩ := bndB h
   refine callW0 (tree_List_ev h5) rfl ?_
   refine Ask.mk ⟨rfl, rfl⟩ (BsW.mk (dTys_map [r2, r4, t.ty]).symm (dTys_sz _) ?_)
   obtain ⟨r6, h7, h⟩ := bndB h
   refine callW0 (tree_Fun_ev h7) rfl ?_
   refine Ask.mk (by kernel_rfl) ?_
   refine rt ?_
   obtain rfl := Option.some.inj h
   exact en rfl rfl
  ·refine sk ?_
   refine rgd pg ?_
   obtain ⟨r8, h9, h⟩ := bndB h
   refine callW0 (tree_Nat_ev h9) rfl ?_
   refine Ask.mk ⟨rfl, rfl⟩ (BsW.mk (dTys_map [r8, t.ty]).symm (dTys_sz _) ?_)
   obtain ⟨r10, h11, h⟩ := bndB h
   refine callW0 (tree_Fun_ev h11) rfl ?_
   refine Ask.mk (by kernel_rfl) ?_
   refine rt ?_
   obtain rfl := Option.some.inj h
   exact en rfl rfl
theorem typing_node_ev {t : Trm} {l : S_3_typing_Sized} {r : S_typing_Sized × Int} (h : typing_node t l = some r) : Ev Tryz.prog GL 358 [.agg ((dTm t).map V.d), .agg ((cS_3_typing_Sized l).map V.d)] [] (.tup [.agg ((cS_typing_Sized r.1).map V.d), .d (.int .i64 r.2)]) [] := by
  refine evb pg Tryz.func358 rfl (by kernel_rfl) 114 [.cell 4 221, .tmp 5] rfl rfl rfl (fun E ι0 => ?_)
  refine rg pg ?_
  refine sq ?_
  refine rg pg ?_
  obtain ⟨r1, h2, h⟩ := bndB h
  refine callW0 (typing_plain_ev h2) rfl ?_
  refine rg pg ?_
  refine LenW.mk (dInts_len _) ?_
  refine cd h rfl (fun h hb3 => ?_) (fun h hb3 => ?_)
  ·refine sq ?_
   refine rg pg ?_
   obtain ⟨p4, p5, p6, h⟩ := cutB h
   refine CutW.mk (fs := dInts ((r1.take (((r1.length : Nat) : Int) : Int).toNat).drop (1 : Int).toNat)) (dInts_sz _) p4 (by rw [dInts_len]; exact p5) (Int.le_refl _) (by rw [dInts_len]; exact dInts_cut _ _ _) ?_
   refine LenW.mk (dInts_len _) ?_
   refine rangeK (X := Unit) pg ((r1.take (((r1.length : Nat) : Int) : Int).toNat).drop (1 : Int).toNat) _ rfl (fun x11 => [(3, .ptr 3 0), (4, .ptr 4 0), (6, .d (.slice (dInts r1))), (18, .d (.slice (dInts ((r1.take (((r1.length : Nat) : Int) : Int).toNat).drop (1 : Int).toNat))))]) (fun x11 => [(3, some (.cells ((cS_3_typing_Sized l).map V.d) 293)), (4, some (.cells [.d (.int .i64 0), .d .nils, .d (.int .i64 0)] 221))]) [3, 4] h rfl rfl rfl rfl (fun _ => ⟨rfl, rfl⟩) 18 rfl (dInts_len _) (fun k8 i9 a7 x11 _ g10 h => ?_) (fun x11 h => ?_)
   ·refine rg pg ?_
    refine IdxW.mk (Int.natCast_nonneg _) (dInts_get g10) rfl ?_
    refine rg pg ?_
    refine swc h (fun h hi22 => ?_) (fun h => ?_)
    ·refine PIdxW.mk (m := 0) hi22 (by decide) ?_
     obtain ⟨r23, h24, h⟩ := bndB h
     refine callW0 (typing_Sized_Is_ev h24) rfl ?_
     refine cd h rfl (fun h hb25 => ?_) (fun h hb25 => ?_)
     ·refine rg pg ?_
      refine rt ?_
      obtain rfl := Option.some.inj h
      exact en rfl rfl
     ·refine sk ?_
      exact jt () h rfl rfl rfl
    ·refine swc h (fun h hi22 => ?_) (fun h => ?_)
     ·refine PIdxW.mk (m := 1) hi22 (by decide) ?_
      obtain ⟨r26, h27, h⟩ := bndB h
      refine callW0 (typing_Sized_Is_ev h27) rfl ?_
      refine cd h rfl (fun h hb28 => ?_) (fun h hb28 => ?_)
      ·refine rg pg ?_
       refine rt ?_
       obtain rfl := Option.some.inj h
       exact en rfl rfl
      ·refine sk ?_
       exact jt () h rfl rfl rfl
     ·refine swc h (fun h hi22 => ?_) (fun h => ?_)
      ·refine PIdxW.mk (m := 2) hi22 (by decide) ?_
       obtain ⟨r29, h30, h⟩ := bndB h
       refine callW0 (typing_Sized_Is_ev h30) rfl ?_
       refine cd h rfl (fun h hb31 => ?_) (fun h hb31 => ?_)
       ·refine rg pg ?_
        refine rt ?_
        obtain rfl := Option.some.inj h
        exact en rfl rfl
       ·refine sk ?_
        exact jt () h rfl rfl rfl
      ·cases h
   ·refine rg pg ?_
    obtain ⟨a32, p33, g34, h⟩ := idxB h
    refine IdxW.mk p33 (dInts_get g34) rfl ?_
    obtain ⟨r35, h36, h⟩ := bndB h
    refine callW0 (typing_Of_ev h36) rfl ?_
    refine rt ?_
    obtain rfl := Option.some.inj h
    exact en rfl rfl
  ·refine sk ?_
   refine sq ?_
   refine rg pg ?_
   refine bk ?_
   refine rg pg ?_
   refine cd h rfl (fun h hb37 => ?_) (fun h hb37 => ?_)
   ·refine sq ?_
    refine rgd pg ?_
    refine PIdxW.mk (m := 0) rfl (by decide) ?_
    obtain ⟨r38, h39, h⟩ := bndB h
    refine callW0 (typing_Sized_Is_ev h39) rfl ?_
    refine gwF h (fun h hb40 => ?_) (fun h hb40 => ?_)
    ·refine gf rfl ?_
     refine gf rfl ?_
     refine gf rfl ?_
     refine gf rfl ?_
     refine gf rfl ?_
     refine gf rfl ?_
     refine Ask.mk (by kernel_rfl) ?_
     refine cdT rfl ?_
     refine rg pg ?_
     refine rt ?_
     obtain rfl := Option.some.inj h
     exact en rfl rfl
    ·refine PIdxW.mk (m := 0) rfl (by decide) ?_
     refine gl rfl ?_
     refine gl rfl ?_
     obtain ⟨r41, h42, h⟩ := bndB h
     refine callW0 (typing_Sized_part_ev h42) rfl ?_
     refine gl rfl ?_
     refine PIdxW.mk (m := 1) rfl (by decide) ?_
     refine gl rfl ?_
     refine gl rfl ?_
     obtain ⟨r43, h44, h⟩ := bndB h
     refine callW0 (typing_Sized_same_ev h44) rfl ?_
     refine gl rfl ?_
     refine Ask.mk (by kernel_rfl) ?_
     refine cd h rfl (fun h hb45 => ?_) (fun h hb45 => ?_)
     ·refine rg pg ?_
      refine rt ?_
      obtain rfl := Option.some.inj h
      exact en rfl rfl
     ·refine sk ?_
      refine rg pg ?_
      refine PIdxW.mk (m := 0) rfl (by decide) ?_
      obtain ⟨r46, h47, h⟩ := bndB h
      refine callW0 (typing_Sized_part_ev h47) rfl ?_
      refine rt ?_
      obtain rfl := Option.some.inj h
      exact en rfl rfl
   ·refine join (fun x50 : Bool => ⟨[(2, .ptr 2 0), (3, .ptr 3 0), (4, .ptr 4 0), (39, .d (.int .i64 t.kind)), (59, .d (.bool x50))], [(2, some (.cells ((dTm t).map V.d) 52)), (3, some (.cells ((cS_3_typing_Sized l).map V.d) 293)), (4, some (.cells [.d (.int .i64 0), .d .nils, .d (.int .i64 0)] 221))], [2, 3, 4]⟩) (fun x50 => typing_node_k1 t l x50) r ?_ (fun x50 h => ?_)
    ·refine rg pg ?_
     refine cd h rfl (fun h hb48 => ?_) (fun h hb48 => ?_)
     ·refine sk ?_
      exact jt true h rfl rfl rfl
     ·refine rl pg ?_
      exact jt (t.kind == 9) h rfl rfl rfl
    ·refine cd h rfl (fun h hb51 => ?_) (fun h hb51 => ?_)
     ·refine rg pg ?_
      obtain ⟨r52, h53, h⟩ := bndB h
      refine callW0 (typing_Of_ev h53) rfl ?_
      refine join (fun x56 : Int => ⟨[(2, .ptr 2 0), (3, .ptr 3 0), (4, .ptr 4 0), (9, .ptr 9 0), (10, .d (.int .i64 x56))], [(2, some (.cells ((dTm t).map V.d) 52)), (3, some (.cells ((cS_3_typing_Sized l).map V.d) 293)), (4, some (.cells [.d (.int .i64 0), .d .nils, .d (.int .i64 0)] 221)), (9, some (.cells ((cS_typing_Sized r52).map V.d) 221))], [2, 3, 4, 9]⟩) (fun x56 => typing_node_k2 t l r52 x56) r ?_ (fun x56 h => ?_)
      ·refine rg pg ?_
       refine cd h rfl (fun h hb54 => ?_) (fun h hb54 => ?_)
       ·refine rl pg ?_
        exact jt 2 h rfl rfl rfl
       ·refine sk ?_
        exact jt 1 h rfl rfl rfl
      ·refine sq ?_
       refine rgd pg ?_
       refine PIdxW.mk (m := 0) rfl (by decide) ?_
       obtain ⟨r57, h58, h⟩ := bndB h
       refine callW0 (typing_Sized_same_ev h58) rfl ?_
       refine gwF h (fun h hb59 => ?_) (fun h hb59 => ?_)
       ·refine gf rfl ?_
        refine gf rfl ?_
        refine gf rfl ?_
        refine gf rfl ?_
        refine gf rfl ?_
        refine gf rfl ?_
        refine gf rfl ?_
        refine gf rfl ?_
        refine gf rfl ?_
        refine gf rfl ?_
        refine gf rfl ?_
        refine Ask.mk (by kernel_rfl) ?_
        refine cdT rfl ?_
        refine rg pg ?_
        refine rt ?_
        obtain rfl := Option.some.inj h
        exact en rfl rfl
       ·refine PIdxW.mk (m := 1) rfl (by decide) ?_
        refine gl rfl ?_
        refine gl rfl ?_
        refine gl rfl ?_
        refine gl rfl ?_
        obtain ⟨r60, h61, h⟩ := bndB h
        refine callW0 (typing_step_ev h61) rfl ?_
        refine gl rfl ?_
        obtain ⟨r62, h63, h⟩ := bndB h
        refine callW0 (tree_SameType_ev h63) rfl ?_
        refine gl rfl ?_
        refine gwF h (fun h hb64 => ?_) (fun h hb64 => ?_)
        ·refine gf rfl ?_
         refine gf rfl ?_
         refine gf rfl ?_
         refine gf rfl ?_
         refine Ask.mk (by kernel_rfl) ?_
         refine cdT rfl ?_
         refine rg pg ?_
         refine rt ?_
         obtain rfl := Option.some.inj h
         exact en rfl rfl
        ·refine PIdxW.mk (m := 2) rfl (by decide) ?_
         refine gl rfl ?_
         refine gl rfl ?_
         refine gl rfl ?_
         obtain ⟨r65, h66, h⟩ := bndB h
         refine callW0 (typing_Sized_Is_ev h66) rfl ?_
         refine gl rfl ?_
         refine Ask.mk (by kernel_rfl) ?_
         refine cd h rfl (fun h hb67 => ?_) (fun h hb67 => ?_)
         ·refine rg pg ?_
          refine rt ?_
          obtain rfl := Option.some.inj h
          exact en rfl rfl
         ·refine sk ?_
          refine rg pg ?_
          refine rt ?_
          obtain rfl := Option.some.inj h
          exact en rfl rfl
     ·refine rg pg ?_
      refine cd h rfl (fun h hb68 => ?_) (fun h hb68 => ?_)
      ·refine rg pg ?_
       refine PIdxW.mk (m := 0) rfl (by decide) ?_
       refine PIdxW.mk (m := 1) rfl (by decide) ?_
       obtain ⟨r69, h70, h⟩ := bndB h
       refine callW0 (typing_join_ev h70) rfl ?_
       refine rt ?_
       obtain rfl := Option.some.inj h
       exact en rfl rfl
      ·refine sk ?_
       refine sq ?_
       refine rg pg ?_
       refine PIdxW.mk (m := 0) rfl (by decide) ?_
       obtain ⟨r71, h72, h⟩ := bndB h
       refine callW0 (typing_Sized_Is_ev h72) rfl ?_
       refine cd h rfl (fun h hb73 => ?_) (fun h hb73 => ?_)
       ·refine rg pg ?_
        refine rt ?_
        obtain rfl := Option.some.inj h
        exact en rfl rfl
       ·refine sk ?_
        refine sq ?_
        refine rg pg ?_
        refine cd h rfl (fun h hb74 => ?_) (fun h hb74 => ?_)
        ·refine rg pg ?_
         refine PIdxW.mk (m := 0) rfl (by decide) ?_
         obtain ⟨r75, h76, h⟩ := bndB h
         refine callW0 (typing_Sized_part_ev h76) rfl ?_
         refine rt ?_
         obtain rfl := Option.some.inj h
         exact en rfl rfl
        ·refine sk ?_
         refine rg pg ?_
         refine PIdxW.mk (m := 0) rfl (by decide) ?_
         obtain ⟨r77, h78, h⟩ := bndB h
         refine callW0 (typing_Sized_part_ev h78) rfl ?_
         refine rt ?_
         obtain rfl := Option.some.inj h
         exact en rfl rfl
theorem typing_Context_TypeOf_be (self : (List S_typing_Sized) → Trm → Option (S_typing_Sized × Int)) (hs : ∀ {c : List S_typing_Sized} {t : Trm} {r : S_typing_Sized × Int}, self c t = some r → Ev Tryz.prog GL 331 [.d (.slice (dS_typing_Sized c)), .agg ((dTm t).map V.d)] [] (.tup [.agg ((cS_typing_Sized r.1).map V.d), .d (.int .i64 r.2)]) []) {c : List S_typing_Sized} {t : Trm} {r : S_typing_Sized × Int} (h : typing_Context_TypeOf_b self c t = some r) : Ev Tryz.prog GL 331 [.d (.slice (dS_typing_Sized c)), .agg ((dTm t).map V.d)] [] (.tup [.agg ((cS_typing_Sized r.1).map V.d), .d (.int .i64 r.2)]) [] := by
  refine evb pg Tryz.func331 rfl (by kernel_rfl) 91 [.cell 4 221, .tmp 5] rfl rfl rfl (fun E ι0 => ?_)
  refine rg pg ?_
  refine sq ?_
  refine rg pg ?_
  refine cd h rfl (fun h hb1 => ?_) (fun h hb1 => ?_)
  ·refine sq ?_
   refine rg pg ?_
   refine LenW.mk (dS_typing_Sized_len _) ?_
   refine cd h rfl (fun h hb2 => ?_) (fun h hb2 => ?_)
   ·refine rg pg ?_
    refine rt ?_
    obtain rfl := Option.some.inj h
    exact en rfl rfl
   ·refine sk ?_
    refine rg pg ?_
    refine LenW.mk (dS_typing_Sized_len _) ?_
    obtain ⟨a3, p4, g5, h⟩ := idxB h
    refine IdxW.mk p4 (dS_typing_Sized_get g5) rfl ?_
    refine rt ?_
    obtain rfl := Option.some.inj h
    exact en rfl rfl
  ·refine sk ?_
   refine sq ?_
   refine rg pg ?_
   refine cd h rfl (fun h hb6 => ?_) (fun h hb6 => ?_)
   ·refine rg pg ?_
    obtain ⟨r7, h8, h⟩ := bndB h
    refine callW0 (typing_Of_ev h8) rfl ?_
    refine rgd pg ?_
    refine LenW.mk (dS_typing_Sized_len _) ?_
    refine LenW.mk (dS_typing_Sized_len _) ?_
    obtain ⟨p9, p10, p11, h⟩ := cutB h
    refine Ask.mk rfl (CutW.mk (dS_typing_Sized_sz _) p9 p10 (by rw [dS_typing_Sized_len]; exact p11) (dS_typing_Sized_cut _ _ _) ?_)
    refine Ask.mk ⟨rfl, rfl⟩ (BsW.mk (dS_typing_Sized_map [r7]).symm (dS_typing_Sized_sz _) ?_)
    obtain ⟨p12, h⟩ := gdB h
    refine AppW.mk (dS_typing_Sized_app _ _) (dS_typing_Sized_sz _) (dS_typing_Sized_sz _) (by rw [dS_typing_Sized_len, dS_typing_Sized_len]; exact p12) ?_
    obtain ⟨a13, p14, g15, h⟩ := idxB h
    refine IdxW.mk p14 (dTms_get g15) rfl ?_
    obtain ⟨r16, h17, h⟩ := bndB h
    refine callW0 (hs h17) rfl ?_
    refine Ask.mk (by kernel_rfl) ?_
    refine sq ?_
    refine rg pg ?_
    refine cd h rfl (fun h hb18 => ?_) (fun h hb18 => ?_)
    ·refine rg pg ?_
     refine rt ?_
     obtain rfl := Option.some.inj h
     exact en rfl rfl
    ·refine sk ?_
     refine rg pg ?_
     obtain ⟨r19, h20, h⟩ := bndB h
     refine callW0 (typing_join_ev h20) rfl ?_
     refine rt ?_
     obtain rfl := Option.some.inj h
     exact en rfl rfl
   ·refine sk ?_
    refine rg pg ?_
    refine sq ?_
    refine rg pg ?_
    refine LenW.mk (dTms_len _) ?_
    refine rangeK (X := S_3_typing_Sized) pg t.args _ rfl (fun x25 => [(0, .d (.slice (dS_typing_Sized c))), (3, .ptr 3 0), (4, .ptr 4 0), (9, .ptr 9 0), (65, .d (.slice (dTms t.args)))]) (fun x25 => [(3, some (.cells ((dTm t).map V.d) 52)), (4, some (.cells [.d (.int .i64 0), .d .nils, .d (.int .i64 0)] 221)), (9, some (.cells ((cS_3_typing_Sized x25).map V.d) 293))]) [3, 4, 9] h rfl rfl rfl rfl (fun _ => ⟨rfl, rfl⟩) 65 rfl (dTms_len _) (fun k22 i23 a21 x25 _ g24 h => ?_) (fun x25 h => ?_)
    ·refine rg pg ?_
     refine IdxW.mk (Int.natCast_nonneg _) (dTms_get g24) rfl ?_
     refine rg pg ?_
     obtain ⟨r37, h38, h⟩ := bndB h
     refine callW0 (hs h38) rfl ?_
     refine sq ?_
     refine rg pg ?_
     refine cd h rfl (fun h hb39 => ?_) (fun h hb39 => ?_)
     ·refine rg pg ?_
      refine rt ?_
      obtain rfl := Option.some.inj h
      exact en rfl rfl
     ·refine sk ?_
      refine rl pg ?_
      refine swc h (fun h hi40 => ?_) (fun h => ?_)
      ·refine PIdxW.mk (m := 0) hi40 (by decide) ?_
       exact jt (S_3_typing_Sized.mk r37.1 x25.e1 x25.e2) h rfl rfl rfl
      ·refine swc h (fun h hi40 => ?_) (fun h => ?_)
       ·refine PIdxW.mk (m := 1) hi40 (by decide) ?_
        exact jt (S_3_typing_Sized.mk x25.e0 r37.1 x25.e2) h rfl rfl rfl
       ·refine swc h (fun h hi40 => ?_) (fun h => ?_)
        ·refine PIdxW.mk (m := 2) hi40 (by decide) ?_
         exact jt (S_3_typing_Sized.mk x25.e0 x25.e1 r37.1) h rfl rfl rfl
        ·cases h
    ·refine rg pg ?_
     obtain ⟨r45, h46, h⟩ := bndB h
     refine callW0 (typing_node_ev h46) rfl ?_
     refine rt ?_
     obtain rfl := Option.some.inj h
     exact en rfl rfl
theorem typing_Context_TypeOf_me : ∀ (m : Nat) {c : List S_typing_Sized} {t : Trm} {r : S_typing_Sized × Int}, typing_Context_TypeOf_m m c t = some r → Ev Tryz.prog GL 331 [.d (.slice (dS_typing_Sized c)), .agg ((dTm t).map V.d)] [] (.tup [.agg ((cS_typing_Sized r.1).map V.d), .d (.int .i64 r.2)]) []
  | 0, _, _, _, h => nomatch (show none = some _ from h)
  | m + 1, _, _, _, h => typing_Context_TypeOf_be (typing_Context_TypeOf_m m) (fun h => typing_Context_TypeOf_me m h) h
theorem typing_Context_TypeOf_ev {c : List S_typing_Sized} {t : Trm} {r : S_typing_Sized × Int} (h : typing_Context_TypeOf c t = some r) : Ev Tryz.prog GL 331 [.d (.slice (dS_typing_Sized c)), .agg ((dTm t).map V.d)] [] (.tup [.agg ((cS_typing_Sized r.1).map V.d), .d (.int .i64 r.2)]) [] := typing_Context_TypeOf_me FU h
theorem typing_Context_Has_ev {c : List S_typing_Sized} {t : Trm} {kind : Int} {r : Int} (h : typing_Context_Has c t kind = some r) : Ev Tryz.prog GL 302 [.d (.slice (dS_typing_Sized c)), .agg ((dTm t).map V.d), .d (.int .i64 kind)] [] (.d (.int .i64 r)) [] := by
  refine evb pg Tryz.func302 rfl (by kernel_rfl) 24 [.tmp 6] rfl rfl rfl (fun E ι0 => ?_)
  refine rg pg ?_
  refine rg pg ?_
  obtain ⟨r1, h2, h⟩ := bndB h
  refine callW0 (typing_Context_TypeOf_ev h2) rfl ?_
  refine sq ?_
  refine rg pg ?_
  refine gwT h (fun h hb3 => ?_) (fun h hb3 => ?_)
  ·refine gl rfl ?_
   refine gl rfl ?_
   obtain ⟨r4, h5, h⟩ := bndB h
   refine callW0 (typing_Sized_Is_ev h5) rfl ?_
   refine gl rfl ?_
   refine cd h rfl (fun h hb6 => ?_) (fun h hb6 => ?_)
   ·refine rg pg ?_
    refine rt ?_
    obtain rfl := Option.some.inj h
    exact en rfl rfl
   ·refine sk ?_
    refine rg pg ?_
    refine rt ?_
    obtain rfl := Option.some.inj h
    exact en rfl rfl
  ·refine gf rfl ?_
   refine gf rfl ?_
   refine gf rfl ?_
   refine cdF rfl ?_
   refine sk ?_
   refine rg pg ?_
   refine rt ?_
   obtain rfl := Option.some.inj h
   exact en rfl rfl
theorem typing_Context_Number_ev {c : List S_typing_Sized} {t : Trm} {r : Int} (h : typing_Context_Number c t = some r) : Ev Tryz.prog GL 258 [.d (.slice (dS_typing_Sized c)), .agg ((dTm t).map V.d)] [] (.d (.int .i64 r)) [] := by
  refine evb pg Tryz.func258 rfl (by kernel_rfl) 8 [.tmp 4] rfl rfl rfl (fun E ι0 => ?_)
  refine rg pg ?_
  refine rg pg ?_
  obtain ⟨r1, h2, h⟩ := bndB h
  refine callW0 (typing_Context_Has_ev h2) rfl ?_
  refine rt ?_
  obtain rfl := Option.some.inj h
  exact en rfl rfl
theorem typing_Context_Formula_be (self : (List S_typing_Sized) → Frm → Option (Int)) (hs : ∀ {c : List S_typing_Sized} {f : Frm} {r : Int}, self c f = some r → Ev Tryz.prog GL 170 [.d (.slice (dS_typing_Sized c)), .agg ((dFm f).map V.d)] [] (.d (.int .i64 r)) []) {c : List S_typing_Sized} {f : Frm} {r : Int} (h : typing_Context_Formula_b self c f = some r) : Ev Tryz.prog GL 170 [.d (.slice (dS_typing_Sized c)), .agg ((dFm f).map V.d)] [] (.d (.int .i64 r)) [] := by
  refine evb pg Tryz.func170 rfl (by kernel_rfl) 55 [.tmp 4] rfl rfl rfl (fun E ι0 => ?_)
  refine rg pg ?_
  refine sq ?_
  refine rg pg ?_
  refine bk ?_
  refine join (fun x11 : List S_typing_Sized => ⟨[(0, .d (.slice (dS_typing_Sized x11))), (3, .ptr 3 0)], [(3, some (.cells ((dFm f).map V.d) 45))], [3]⟩) (fun x11 => typing_Context_Formula_k2 self f x11) r ?_ (fun x11 h => ?_)
  ·refine bk ?_
   refine join (fun x7 : Unit => ⟨[(0, .d (.slice (dS_typing_Sized c))), (3, .ptr 3 0)], [(3, some (.cells ((dFm f).map V.d) 45))], [3]⟩) (fun x7 => typing_Context_Formula_k1 self c f x7) r ?_ (fun x7 h => ?_)
   ·refine bk ?_
    refine bk ?_
    refine sq ?_
    refine sq ?_
    refine sq ?_
    refine rg pg ?_
    refine cd h rfl (fun h hb1 => ?_) (fun h hb1 => ?_)
    ·refine sk ?_
     refine cdT rfl ?_
     refine ex ?_
     exact jt () h rfl rfl rfl
    ·refine rl pg ?_
     refine cd h rfl (fun h hb2 => ?_) (fun h hb2 => ?_)
     ·refine ex ?_
      exact jt () h rfl rfl rfl
     ·refine sk ?_
      refine sq ?_
      refine sq ?_
      refine rg pg ?_
      refine cd h rfl (fun h hb3 => ?_) (fun h hb3 => ?_)
      ·refine sk ?_
       refine cdT rfl ?_
       refine ex ?_
       exact jt () h rfl rfl rfl
      ·refine rl pg ?_
       refine cd h rfl (fun h hb4 => ?_) (fun h hb4 => ?_)
       ·refine ex ?_
        exact jt () h rfl rfl rfl
       ·refine sk ?_
        refine sq ?_
        refine rg pg ?_
        refine cd h rfl (fun h hb5 => ?_) (fun h hb5 => ?_)
        ·refine sk ?_
         refine cdT rfl ?_
         refine ex ?_
         exact jt c h rfl rfl rfl
        ·refine rl pg ?_
         refine cd h rfl (fun h hb6 => ?_) (fun h hb6 => ?_)
         ·refine ex ?_
          exact jt c h rfl rfl rfl
         ·refine sk ?_
          refine ex ?_
          refine sq ?_
          refine rg pg ?_
          refine LenW.mk (dTms_len _) ?_
          refine rangeK (X := Unit) pg f.terms _ rfl (fun x27 => [(0, .d (.slice (dS_typing_Sized c))), (42, .d (.slice (dTms f.terms)))]) (fun x27 => []) [] h rfl rfl rfl rfl (fun _ => ⟨rfl, rfl⟩) 42 rfl (dTms_len _) (fun k24 i25 a23 x27 _ g26 h => ?_) (fun x27 h => ?_)
          ·refine rg pg ?_
           refine IdxW.mk (Int.natCast_nonneg _) (dTms_get g26) rfl ?_
           refine rg pg ?_
           obtain ⟨r31, h32, h⟩ := bndB h
           refine callW0 (typing_Context_Number_ev h32) rfl ?_
           refine rg pg ?_
           refine cd h rfl (fun h hb33 => ?_) (fun h hb33 => ?_)
           ·refine rg pg ?_
            refine rt ?_
            obtain rfl := Option.some.inj h
            exact en rfl rfl
           ·refine sk ?_
            exact jt () h rfl rfl rfl
          ·refine rg pg ?_
           refine rt ?_
           obtain rfl := Option.some.inj h
           exact en rfl rfl
   ·refine rl pg ?_
    refine Ask.mk ⟨rfl, rfl⟩ (BsW.mk (dTys_map [f.ty]).symm (dTys_sz _) ?_)
    obtain ⟨r8, h9, h⟩ := bndB h
    refine callW0 (typing_Context_With_ev h9) rfl ?_
    exact jt r8 h rfl rfl rfl
  ·refine sq ?_
   refine sq ?_
   refine rg pg ?_
   refine LenW.mk (dFms_len _) ?_
   refine rangeK (X := Unit) pg f.args _ rfl (fun x16 => [(0, .d (.slice (dS_typing_Sized x11))), (28, .d (.slice (dFms f.args)))]) (fun x16 => []) [] h rfl rfl rfl rfl (fun _ => ⟨rfl, rfl⟩) 28 rfl (dFms_len _) (fun k13 i14 a12 x16 _ g15 h => ?_) (fun x16 h => ?_)
   ·refine rg pg ?_
    refine IdxW.mk (Int.natCast_nonneg _) (dFms_get g15) rfl ?_
    refine rg pg ?_
    obtain ⟨r20, h21, h⟩ := bndB h
    refine callW0 (hs h21) rfl ?_
    refine rg pg ?_
    refine cd h rfl (fun h hb22 => ?_) (fun h hb22 => ?_)
    ·refine rg pg ?_
     refine rt ?_
     obtain rfl := Option.some.inj h
     exact en rfl rfl
    ·refine sk ?_
     exact jt () h rfl rfl rfl
   ·refine rg pg ?_
    refine rt ?_
    obtain rfl := Option.some.inj h
    exact en rfl rfl
theorem typing_Context_Formula_me : ∀ (m : Nat) {c : List S_typing_Sized} {f : Frm} {r : Int}, typing_Context_Formula_m m c f = some r → Ev Tryz.prog GL 170 [.d (.slice (dS_typing_Sized c)), .agg ((dFm f).map V.d)] [] (.d (.int .i64 r)) []
  | 0, _, _, _, h => nomatch (show none = some _ from h)
  | m + 1, _, _, _, h => typing_Context_Formula_be (typing_Context_Formula_m m) (fun h => typing_Context_Formula_me m h) h
theorem typing_Context_Formula_ev {c : List S_typing_Sized} {f : Frm} {r : Int} (h : typing_Context_Formula c f = some r) : Ev Tryz.prog GL 170 [.d (.slice (dS_typing_Sized c)), .agg ((dFm f).map V.d)] [] (.d (.int .i64 r)) [] := typing_Context_Formula_me FU h
theorem formula_Typed_ev {context : List Typ} {f : Frm} {r : Int} (h : formula_Typed context f = some r) : Ev Tryz.prog GL 50 [.d (.slice (dTys context)), .agg ((dFm f).map V.d)] [] (.d (.int .i64 r)) [] := by
  refine evb pg Tryz.func50 rfl (by kernel_rfl) 21 [.tmp 4] rfl rfl rfl (fun E ι0 => ?_)
  refine rg pg ?_
  refine sq ?_
  refine rg pg ?_
  obtain ⟨r1, h2, h⟩ := bndB h
  refine callW0 (types_Context_ev h2) rfl ?_
  refine rg pg ?_
  refine cd h rfl (fun h hb3 => ?_) (fun h hb3 => ?_)
  ·refine rg pg ?_
   refine rt ?_
   obtain rfl := Option.some.inj h
   exact en rfl rfl
  ·refine sk ?_
   refine sq ?_
   refine rg pg ?_
   obtain ⟨r4, h5, h⟩ := bndB h
   refine callW0 (formula_Check_ev h5) rfl ?_
   refine rg pg ?_
   refine cd h rfl (fun h hb6 => ?_) (fun h hb6 => ?_)
   ·refine rg pg ?_
    refine rt ?_
    obtain rfl := Option.some.inj h
    exact en rfl rfl
   ·refine sk ?_
    refine rgd pg ?_
    obtain ⟨r7, h8, h⟩ := bndB h
    refine callW0 (typing_From_ev h8) rfl ?_
    obtain ⟨r9, h10, h⟩ := bndB h
    refine callW0 (typing_Context_Formula_ev h10) rfl ?_
    refine Ask.mk (by kernel_rfl) ?_
    refine rt ?_
    obtain rfl := Option.some.inj h
    exact en rfl rfl
theorem law07_FormulaLifts_ev {t : List Int} {r : Bool} (h : law07_FormulaLifts t = some r) : Ev Tryz.prog GL 9 [.d (.slice (dInts t))] [] (.d (.bool r)) [] := by
  refine evb pg Tryz.func9 rfl (by kernel_rfl) 103 [.tmp 2] rfl rfl rfl (fun E ι0 => ?_)
  refine rg pg ?_
  refine sq ?_
  refine rg pg ?_
  obtain ⟨r1, h2, h⟩ := bndB h
  refine callW0 (law07_sane_ev h2) rfl ?_
  refine cd h rfl (fun h hb3 => ?_) (fun h hb3 => ?_)
  ·refine rg pg ?_
   refine rt ?_
   obtain rfl := Option.some.inj h
   exact en rfl rfl
  ·refine sk ?_
   refine sq ?_
   refine rg pg ?_
   obtain ⟨r4, h5, h⟩ := bndB h
   refine callW0 (make_Few_ev h5) rfl ?_
   refine cd h rfl (fun h hb6 => ?_) (fun h hb6 => ?_)
   ·refine rg pg ?_
    refine rt ?_
    obtain rfl := Option.some.inj h
    exact en rfl rfl
   ·refine sk ?_
    refine rg pg ?_
    obtain ⟨r7, h8, h⟩ := bndB h
    refine callW [(5, 10023)] (make_New_ev h8) rfl rfl rfl rfl rfl ?_
    refine rg pg ?_
    obtain ⟨r9, h10, h⟩ := bndB h
    refine callW [(1000, 10023)] (make_Context_6f7_ev h10) rfl rfl rfl rfl rfl ?_
    refine rg pg ?_
    obtain ⟨r11, h12, h⟩ := bndB h
    refine callW [(1000, 10023)] (make_Formula_6d8_ev h12) rfl rfl rfl rfl rfl ?_
    obtain ⟨r13, h14, h⟩ := bndB h
    refine callW [(1000, 10023)] (make_Formula_6d8_ev h14) rfl rfl rfl rfl rfl ?_
    refine rg pg ?_
    obtain ⟨r15, h16, h⟩ := bndB h
    refine callW0 (formula_Lift_ev h16) rfl ?_
    refine rg pg ?_
    obtain ⟨r17, h18, h⟩ := bndB h
    refine callW0 (formula_Lower_ev h18) rfl ?_
    refine rgd pg ?_
    obtain ⟨r19, h20, h⟩ := bndB h
    refine callW [(1000, 10023)] (make_Type_eb1_ev h20) rfl rfl rfl rfl rfl ?_
    obtain ⟨r21, h22, h⟩ := bndB h
    refine callW [(1000, 10023)] (make_Term_02b_ev h22) rfl rfl rfl rfl rfl ?_
    obtain ⟨r23, h24, h⟩ := bndB h
    refine callW0 (formula_Put_ev h24) rfl ?_
    refine Ask.mk (by kernel_rfl) ?_
    refine rg pg ?_
    obtain ⟨r25, h26, h⟩ := bndB h
    refine callW0 (formula_Not_ev h26) rfl ?_
    refine rg pg ?_
    obtain ⟨r27, h28, h⟩ := bndB h
    refine callW0 (formula_Or_ev h28) rfl ?_
    refine rg pg ?_
    refine gwT h (fun h hb29 => ?_) (fun h hb29 => ?_)
    ·refine gl rfl ?_
     refine gwT h (fun h hb30 => ?_) (fun h hb30 => ?_)
     ·refine gl rfl ?_
      refine gwT h (fun h hb31 => ?_) (fun h hb31 => ?_)
      ·refine gl rfl ?_
       refine gwT h (fun h hb32 => ?_) (fun h hb32 => ?_)
       ·refine gl rfl ?_
        refine gwT h (fun h hb33 => ?_) (fun h hb33 => ?_)
        ·refine gl rfl ?_
         refine gl rfl ?_
         obtain ⟨r34, h35, h⟩ := bndB h
         refine callW0 (ref07_Same_ev h35) rfl ?_
         refine gwT h (fun h hb36 => ?_) (fun h hb36 => ?_)
         ·refine gl rfl ?_
          refine gl rfl ?_
          obtain ⟨r37, h38, h⟩ := bndB h
          refine callW0 (ref07_Same_ev h38) rfl ?_
          refine gwT h (fun h hb39 => ?_) (fun h hb39 => ?_)
          ·refine gl rfl ?_
           refine gl rfl ?_
           obtain ⟨r40, h41, h⟩ := bndB h
           refine callW0 (formula_Typed_ev h41) rfl ?_
           refine gl rfl ?_
           refine gwT h (fun h hb42 => ?_) (fun h hb42 => ?_)
           ·refine gl rfl ?_
            refine gl rfl ?_
            obtain ⟨r43, h44, h⟩ := bndB h
            refine callW0 (formula_Typed_ev h44) rfl ?_
            refine gl rfl ?_
            refine rt ?_
            obtain rfl := Option.some.inj h
            exact en rfl rfl
           ·refine gf rfl ?_
            refine gf rfl ?_
            refine gf rfl ?_
            refine rt ?_
            obtain rfl := Option.some.inj h
            exact en rfl rfl
          ·refine gf rfl ?_
           refine gf rfl ?_
           refine gf rfl ?_
           refine gf rfl ?_
           refine gf rfl ?_
           refine gf rfl ?_
           refine gf rfl ?_
           refine rt ?_
           obtain rfl := Option.some.inj h
           exact en rfl rfl
         ·refine gf rfl ?_
          refine gf rfl ?_
          refine gf rfl ?_
          refine gf rfl ?_
          refine gf rfl ?_
          refine gf rfl ?_
          refine gf rfl ?_
          refine gf rfl ?_
          refine gf rfl ?_
          refine gf rfl ?_
          refine rt ?_
          obtain rfl := Option.some.inj h
          exact en rfl rfl
        ·refine gf rfl ?_
         refine gf rfl ?_
         refine gf rfl ?_
         refine gf rfl ?_
         refine gf rfl ?_
         refine gf rfl ?_
         refine gf rfl ?_
         refine gf rfl ?_
         refine gf rfl ?_
         refine gf rfl ?_
         refine gf rfl ?_
         refine gf rfl ?_
         refine gf rfl ?_
         refine rt ?_
         obtain rfl := Option.some.inj h
         exact en rfl rfl
       ·refine gf rfl ?_
        refine gf rfl ?_
        refine gf rfl ?_
        refine gf rfl ?_
        refine gf rfl ?_
        refine gf rfl ?_
        refine gf rfl ?_
        refine gf rfl ?_
        refine gf rfl ?_
        refine gf rfl ?_
        refine gf rfl ?_
        refine gf rfl ?_
        refine gf rfl ?_
        refine gf rfl ?_
        refine gf rfl ?_
        refine rt ?_
        obtain rfl := Option.some.inj h
        exact en rfl rfl
      ·refine gf rfl ?_
       refine gf rfl ?_
       refine gf rfl ?_
       refine gf rfl ?_
       refine gf rfl ?_
       refine gf rfl ?_
       refine gf rfl ?_
       refine gf rfl ?_
       refine gf rfl ?_
       refine gf rfl ?_
       refine gf rfl ?_
       refine gf rfl ?_
       refine gf rfl ?_
       refine gf rfl ?_
       refine gf rfl ?_
       refine gf rfl ?_
       refine gf rfl ?_
       refine rt ?_
       obtain rfl := Option.some.inj h
       exact en rfl rfl
     ·refine gf rfl ?_
      refine gf rfl ?_
      refine gf rfl ?_
      refine gf rfl ?_
      refine gf rfl ?_
      refine gf rfl ?_
      refine gf rfl ?_
      refine gf rfl ?_
      refine gf rfl ?_
      refine gf rfl ?_
      refine gf rfl ?_
      refine gf rfl ?_
      refine gf rfl ?_
      refine gf rfl ?_
      refine gf rfl ?_
      refine gf rfl ?_
      refine gf rfl ?_
      refine gf rfl ?_
      refine gf rfl ?_
      refine rt ?_
      obtain rfl := Option.some.inj h
      exact en rfl rfl
    ·refine gf rfl ?_
     refine gf rfl ?_
     refine gf rfl ?_
     refine gf rfl ?_
     refine gf rfl ?_
     refine gf rfl ?_
     refine gf rfl ?_
     refine gf rfl ?_
     refine gf rfl ?_
     refine gf rfl ?_
     refine gf rfl ?_
     refine gf rfl ?_
     refine gf rfl ?_
     refine gf rfl ?_
     refine gf rfl ?_
     refine gf rfl ?_
     refine gf rfl ?_
     refine gf rfl ?_
     refine gf rfl ?_
     refine gf rfl ?_
     refine gf rfl ?_
     refine rt ?_
     obtain rfl := Option.some.inj h
     exact en rfl rfl
end Go.AM

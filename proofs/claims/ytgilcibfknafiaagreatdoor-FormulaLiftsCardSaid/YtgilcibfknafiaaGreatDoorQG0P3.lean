/-
  The Go functions reckon what the printed ones do.
-/
import Derived.Test.YtgilcibfknafiaaGreatDoorQG0P2
set_option linter.unusedVariables false
set_option linter.unusedSimpArgs false
set_option maxRecDepth 20000
set_option maxHeartbeats 40000000
namespace Go.AM
open Go Go.RowKit Go.Proofs
theorem tree_NearFormula_1_c4e_ev {t : Trm} {__ : Int} {o0 : Bool} {r : Bool} (h : tree_NearFormula_1_c4e t __ o0 = some r) : Ev Tryz.prog GL 249 [.agg ((dTm t).map V.d), .d (.int .i64 __), .ptr 1000 0] [(1000, .cells [.d (.bool o0)] 4)] (.tup []) [(1000, .cells [.d (.bool r)] 4)] := by
  refine evb pg Tryz.func249 rfl (by kernel_rfl) 10 [] rfl rfl rfl (fun E ι0 => ?_)
  refine rg pg ?_
  refine rl pg ?_
  refine gwT h (fun h hb1 => ?_) (fun h hb1 => ?_)
  ·refine gl rfl ?_
   obtain ⟨r2, h3, h⟩ := bndB h
   refine callW0 (tree_Near_ev h3) rfl ?_
   obtain rfl := Option.some.inj h
   exact enN rfl rfl
  ·refine gf rfl ?_
   obtain rfl := Option.some.inj h
   exact enN rfl rfl
theorem tree_EachTerm_510_be (self : Frm → Int → Bool → Option (Bool)) (hs : ∀ {f : Frm} {below : Int} {o0 : Bool} {r : Bool}, self f below o0 = some r → Ev Tryz.prog GL 145 [.agg ((dFm f).map V.d), .d (.int .i64 below), .clo 249 [.ptr 1000 0]] [(1000, .cells [.d (.bool o0)] 4)] (.tup []) [(1000, .cells [.d (.bool r)] 4)]) {f : Frm} {below : Int} {o0 : Bool} {r : Bool} (h : tree_EachTerm_510_b self f below o0 = some r) : Ev Tryz.prog GL 145 [.agg ((dFm f).map V.d), .d (.int .i64 below), .clo 249 [.ptr 1000 0]] [(1000, .cells [.d (.bool o0)] 4)] (.tup []) [(1000, .cells [.d (.bool r)] 4)] := by
  refine evb pg Tryz.func145 rfl (by kernel_rfl) 39 [] rfl rfl rfl (fun E ι0 => ?_)
  refine rg pg ?_
  refine sq ?_
  refine rg pg ?_
  refine LenW.mk (dTms_len _) ?_
  refine rangeK (X := Bool) pg f.terms _ rfl (fun x5 => [(1, .d (.int .i64 below)), (2, .clo 249 [.ptr 1000 0]), (3, .ptr 3 0), (11, .d (.slice (dTms f.terms)))]) (fun x5 => [(3, some (.cells ((dFm f).map V.d) 45)), (1000, some (.cells [.d (.bool x5)] 4))]) [3, 1000] h rfl rfl rfl rfl (fun _ => ⟨rfl, rfl⟩) 11 rfl (dTms_len _) (fun k2 i3 a1 x5 _ g4 h => ?_) (fun x5 h => ?_)
  ·refine rg pg ?_
   refine IdxW.mk (Int.natCast_nonneg _) (dTms_get g4) rfl ?_
   refine rl pg ?_
   obtain ⟨r13, h14, h⟩ := bndB h
   refine callW [(1000, 1000)] (tree_NearFormula_1_c4e_ev h14) rfl rfl rfl rfl rfl ?_
   exact jt r13 h rfl rfl rfl
  ·refine join (fun x21 : Int => ⟨[(1, .d (.int .i64 x21)), (2, .clo 249 [.ptr 1000 0]), (3, .ptr 3 0)], [(3, some (.cells ((dFm f).map V.d) 45)), (1000, some (.cells [.d (.bool x5)] 4))], [3, 1000]⟩) (fun x21 => tree_EachTerm_510_k1 self f x5 x21) r ?_ (fun x21 h => ?_)
   ·refine rg pg ?_
    obtain ⟨r17, h18, h⟩ := bndB h
    refine callW0 (tree_Quantifier_ev h18) rfl ?_
    refine cd h rfl (fun h hb19 => ?_) (fun h hb19 => ?_)
    ·refine rl pg ?_
     exact jt (w64 (below + 1)) h rfl rfl rfl
    ·refine sk ?_
     exact jt below h rfl rfl rfl
   ·refine rg pg ?_
    refine LenW.mk (dFms_len _) ?_
    refine rangeK (X := Bool) pg f.args _ rfl (fun x26 => [(1, .d (.int .i64 x21)), (2, .clo 249 [.ptr 1000 0]), (28, .d (.slice (dFms f.args)))]) (fun x26 => [(1000, some (.cells [.d (.bool x26)] 4))]) [1000] h rfl rfl rfl rfl (fun _ => ⟨rfl, rfl⟩) 28 rfl (dFms_len _) (fun k23 i24 a22 x26 _ g25 h => ?_) (fun x26 h => ?_)
    ·refine rg pg ?_
     refine IdxW.mk (Int.natCast_nonneg _) (dFms_get g25) rfl ?_
     refine rl pg ?_
     obtain ⟨r34, h35, h⟩ := bndB h
     refine callW [(1000, 1000)] (hs h35) rfl rfl rfl rfl rfl ?_
     exact jt r34 h rfl rfl rfl
    ·obtain rfl := Option.some.inj h
     exact enN rfl rfl
theorem tree_EachTerm_510_me : ∀ (m : Nat) {f : Frm} {below : Int} {o0 : Bool} {r : Bool}, tree_EachTerm_510_m m f below o0 = some r → Ev Tryz.prog GL 145 [.agg ((dFm f).map V.d), .d (.int .i64 below), .clo 249 [.ptr 1000 0]] [(1000, .cells [.d (.bool o0)] 4)] (.tup []) [(1000, .cells [.d (.bool r)] 4)]
  | 0, _, _, _, _, h => nomatch (show none = some _ from h)
  | m + 1, _, _, _, _, h => tree_EachTerm_510_be (tree_EachTerm_510_m m) (fun h => tree_EachTerm_510_me m h) h
theorem tree_EachTerm_510_ev {f : Frm} {below : Int} {o0 : Bool} {r : Bool} (h : tree_EachTerm_510 f below o0 = some r) : Ev Tryz.prog GL 145 [.agg ((dFm f).map V.d), .d (.int .i64 below), .clo 249 [.ptr 1000 0]] [(1000, .cells [.d (.bool o0)] 4)] (.tup []) [(1000, .cells [.d (.bool r)] 4)] := tree_EachTerm_510_me FU h
theorem tree_NearFormula_ev {f : Frm} {r : Bool} (h : tree_NearFormula f = some r) : Ev Tryz.prog GL 156 [.agg ((dFm f).map V.d)] [] (.d (.bool r)) [] := by
  refine evb pg Tryz.func156 rfl (by kernel_rfl) 8 [.tmp 2] rfl rfl rfl (fun E ι0 => ?_)
  refine rg pg ?_
  refine rg pg ?_
  refine rg pg ?_
  obtain ⟨r1, h2, h⟩ := bndB h
  refine callW [(1000, 3)] (tree_EachTerm_510_ev h2) rfl rfl rfl rfl rfl ?_
  refine rg pg ?_
  refine rt ?_
  obtain rfl := Option.some.inj h
  exact en rfl rfl
theorem tree_OwnType_be (self : Typ → Option (Typ)) (hs : ∀ {t : Typ} {r : Typ}, self t = some r → Ev Tryz.prog GL 284 [.agg ((dTy t).map V.d)] [] (.agg ((dTy r).map V.d)) []) {t : Typ} {r : Typ} (h : tree_OwnType_b self t = some r) : Ev Tryz.prog GL 284 [.agg ((dTy t).map V.d)] [] (.agg ((dTy r).map V.d)) [] := by
  refine evb pg Tryz.func284 rfl (by kernel_rfl) 25 [.cell 2 34] rfl rfl rfl (fun E ι0 => ?_)
  refine rg pg ?_
  refine rg pg ?_
  refine sq ?_
  refine rg pg ?_
  refine LenW.mk (dTys_len _) ?_
  refine wrcN 201 3 1 2 34 rfl rfl rfl ?_
  refine rangeK (X := List Typ) pg t.args _ rfl (fun x5 => [(2, .ptr 2 0), (3, .ptr 3 0), (10, .d (.slice (dTys t.args)))]) (fun x5 => [(2, some (.cells [.d (.int .i64 0), .d .nils] 34)), (3, some (.cells [.d (.int .i64 t.kind), .own (dTys x5) 201] 34)), (201, some (.row (dTys x5).length 2 34))]) [2, 3, 201] h rfl rfl rfl rfl (fun _ => ⟨rfl, rfl⟩) 10 rfl (dTys_len _) (fun k2 i3 a1 x5 _ g4 h => ?_) (fun x5 h => ?_)
  ·refine rg pg ?_
   refine IdxW.mk (Int.natCast_nonneg _) (dTys_get g4) rfl ?_
   refine rld pg ?_
   obtain ⟨r18, h19, h⟩ := bndB h
   refine callW0 (hs h19) rfl ?_
   refine Ask.mk ⟨rfl, rfl⟩ (BsW.mk (dTys_map [r18]).symm (dTys_sz _) ?_)
   obtain ⟨p20, h⟩ := gdB h
   refine Ask.mk ⟨rfl, rfl, rfl⟩ (AppW.mk (dTys_app _ _) (dTys_sz _) (dTys_sz _) (by rw [dTys_len, dTys_len]; exact p20) ?_)
   refine Ask.mk (by kernel_rfl) ?_
   exact jt (x5 ++ [r18]) h rfl rfl rfl
  ·refine rg pg ?_
   refine rt ?_
   obtain rfl := Option.some.inj h
   exact en rfl rfl
theorem tree_OwnType_me : ∀ (m : Nat) {t : Typ} {r : Typ}, tree_OwnType_m m t = some r → Ev Tryz.prog GL 284 [.agg ((dTy t).map V.d)] [] (.agg ((dTy r).map V.d)) []
  | 0, _, _, h => nomatch (show none = some _ from h)
  | m + 1, _, _, h => tree_OwnType_be (tree_OwnType_m m) (fun h => tree_OwnType_me m h) h
theorem tree_OwnType_ev {t : Typ} {r : Typ} (h : tree_OwnType t = some r) : Ev Tryz.prog GL 284 [.agg ((dTy t).map V.d)] [] (.agg ((dTy r).map V.d)) [] := tree_OwnType_me FU h
theorem tree_Var_ev {index : Int} {r : Trm} (h : tree_Var index = some r) : Ev Tryz.prog GL 164 [.d (.int .i64 index)] [] (.agg ((dTm r).map V.d)) [] := by
  refine evb pg Tryz.func164 rfl (by kernel_rfl) 5 [.cell 2 52] rfl rfl rfl (fun E ι0 => ?_)
  refine rg pg ?_
  refine rg pg ?_
  refine rt ?_
  obtain rfl := Option.some.inj h
  exact en rfl rfl
theorem tree_Lift_1_9d7_ev {index : Int} {below : Int} {o0 : Int} {o1 : Int} {r : Trm} (h : tree_Lift_1_9d7 index below o0 o1 = some r) : Ev Tryz.prog GL 294 [.d (.int .i64 index), .d (.int .i64 below), .ptr 1000 0, .ptr 1001 0] [(1000, .cells [.d (.int .i64 o0)] 3), (1001, .cells [.d (.int .i64 o1)] 3)] (.agg ((dTm r).map V.d)) [(1000, .cells [.d (.int .i64 o0)] 3), (1001, .cells [.d (.int .i64 o1)] 3)] := by
  refine evb pg Tryz.func294 rfl (by kernel_rfl) 17 [.cell 6 52] rfl rfl rfl (fun E ι0 => ?_)
  refine rg pg ?_
  refine join (fun x3 : Int => ⟨[(0, .d (.int .i64 x3)), (6, .ptr 6 0)], [(6, some (.cells [.d (.int .i64 0), .d (.int .i64 0), .d (.int .i64 0), .d .nils, .d .nils] 52)), (1000, some (.cells [.d (.int .i64 o0)] 3)), (1001, some (.cells [.d (.int .i64 o1)] 3))], [6, 1000, 1001]⟩) (fun x3 => tree_Lift_1_9d7_k1 x3) r ?_ (fun x3 h => ?_)
  ·refine rg pg ?_
   refine cd h rfl (fun h hb1 => ?_) (fun h hb1 => ?_)
   ·refine rl pg ?_
    exact jt (w64 (index + o1)) h rfl rfl rfl
   ·refine sk ?_
    exact jt index h rfl rfl rfl
  ·refine rg pg ?_
   obtain ⟨r4, h5, h⟩ := bndB h
   refine callW0 (tree_Var_ev h5) rfl ?_
   refine rt ?_
   obtain rfl := Option.some.inj h
   exact en rfl rfl
theorem tree_Rebuild_1_253_be (self : Trm → Int → Int → Int → Option (Trm)) (hs : ∀ {t : Trm} {below : Int} {o2 : Int} {o3 : Int} {r : Trm}, self t below o2 o3 = some r → Ev Tryz.prog GL 326 [.agg ((dTm t).map V.d), .d (.int .i64 below), .ptr 1000 0, .ptr 1001 0] [(1000, .cells [.clo 294 [.ptr 1002 0, .ptr 1003 0]] 260), (1001, .cells [.clo 326 [.ptr 1000 0, .ptr 1001 0]] 195), (1002, .cells [.d (.int .i64 o2)] 3), (1003, .cells [.d (.int .i64 o3)] 3)] (.agg ((dTm r).map V.d)) [(1000, .cells [.clo 294 [.ptr 1002 0, .ptr 1003 0]] 260), (1001, .cells [.clo 326 [.ptr 1000 0, .ptr 1001 0]] 195), (1002, .cells [.d (.int .i64 o2)] 3), (1003, .cells [.d (.int .i64 o3)] 3)]) {t : Trm} {below : Int} {o2 : Int} {o3 : Int} {r : Trm} (h : tree_Rebuild_1_253_b self t below o2 o3 = some r) : Ev Tryz.prog GL 326 [.agg ((dTm t).map V.d), .d (.int .i64 below), .ptr 1000 0, .ptr 1001 0] [(1000, .cells [.clo 294 [.ptr 1002 0, .ptr 1003 0]] 260), (1001, .cells [.clo 326 [.ptr 1000 0, .ptr 1001 0]] 195), (1002, .cells [.d (.int .i64 o2)] 3), (1003, .cells [.d (.int .i64 o3)] 3)] (.agg ((dTm r).map V.d)) [(1000, .cells [.clo 294 [.ptr 1002 0, .ptr 1003 0]] 260), (1001, .cells [.clo 326 [.ptr 1000 0, .ptr 1001 0]] 195), (1002, .cells [.d (.int .i64 o2)] 3), (1003, .cells [.d (.int .i64 o3)] 3)] := by
  refine evb pg Tryz.func326 rfl (by kernel_rfl) 49 [.cell 6 52] rfl rfl rfl (fun E ι0 => ?_)
  refine rg pg ?_
  refine sq ?_
  refine rg pg ?_
  refine cd h rfl (fun h hb1 => ?_) (fun h hb1 => ?_)
  ·refine rg pg ?_
   obtain ⟨r2, h3, h⟩ := bndB h
   refine callW [(1000, 1002), (1001, 1003)] (tree_Lift_1_9d7_ev h3) rfl rfl rfl rfl rfl ?_
   refine rt ?_
   obtain rfl := Option.some.inj h
   exact en rfl rfl
  ·refine sk ?_
   refine rgd pg ?_
   obtain ⟨r4, h5, h⟩ := bndB h
   refine callW0 (tree_OwnType_ev h5) rfl ?_
   refine Ask.mk (by kernel_rfl) ?_
   refine join (fun x8 : Int => ⟨[(1, .d (.int .i64 x8)), (3, .ptr 1001 0), (4, .ptr 4 0), (6, .ptr 6 0), (7, .ptr 7 0)], [(1001, some (.cells [.clo 326 [.ptr 1000 0, .ptr 1001 0]] 195)), (4, some (.cells ((dTm t).map V.d) 52)), (6, some (.cells [.d (.int .i64 0), .d (.int .i64 0), .d (.int .i64 0), .d .nils, .d .nils] 52)), (7, some (.cells [.d (.int .i64 t.kind), .d (.int .i64 t.index), .d (.int .i64 r4.kind), .d (.slice (dTys r4.args)), .d .nils] 52)), (1000, some (.cells [.clo 294 [.ptr 1002 0, .ptr 1003 0]] 260)), (1002, some (.cells [.d (.int .i64 o2)] 3)), (1003, some (.cells [.d (.int .i64 o3)] 3))], [1001, 4, 6, 7, 1000, 1002, 1003]⟩) (fun x8 => tree_Rebuild_1_253_k1 self t o2 o3 r4 x8) r ?_ (fun x8 h => ?_)
   ·refine rg pg ?_
    refine cd h rfl (fun h hb6 => ?_) (fun h hb6 => ?_)
    ·refine rl pg ?_
     exact jt (w64 (below + 1)) h rfl rfl rfl
    ·refine sk ?_
     exact jt below h rfl rfl rfl
   ·refine sq ?_
    refine rg pg ?_
    refine LenW.mk (dTms_len _) ?_
    refine wrcN 201 7 4 5 52 rfl rfl rfl ?_
    refine rangeK (X := List Trm) pg t.args _ rfl (fun x13 => [(1, .d (.int .i64 x8)), (3, .ptr 1001 0), (6, .ptr 6 0), (7, .ptr 7 0), (32, .d (.slice (dTms t.args)))]) (fun x13 => [(1001, some (.cells [.clo 326 [.ptr 1000 0, .ptr 1001 0]] 195)), (6, some (.cells [.d (.int .i64 0), .d (.int .i64 0), .d (.int .i64 0), .d .nils, .d .nils] 52)), (7, some (.cells [.d (.int .i64 t.kind), .d (.int .i64 t.index), .d (.int .i64 r4.kind), .d (.slice (dTys r4.args)), .own (dTms x13) 201] 52)), (201, some (.row (dTms x13).length 5 52)), (1000, some (.cells [.clo 294 [.ptr 1002 0, .ptr 1003 0]] 260)), (1002, some (.cells [.d (.int .i64 o2)] 3)), (1003, some (.cells [.d (.int .i64 o3)] 3))]) [1001, 6, 7, 201, 1000, 1002, 1003] h rfl rfl rfl rfl (fun _ => ⟨rfl, rfl⟩) 32 rfl (dTms_len _) (fun k10 i11 a9 x13 _ g12 h => ?_) (fun x13 h => ?_)
    ·refine rg pg ?_
     refine IdxW.mk (Int.natCast_nonneg _) (dTms_get g12) rfl ?_
     refine rld pg ?_
     obtain ⟨r26, h27, h⟩ := bndB h
     refine callW [(1000, 1000), (1001, 1001), (1002, 1002), (1003, 1003)] (hs h27) rfl rfl rfl rfl rfl ?_
     refine Ask.mk ⟨rfl, rfl⟩ (BsW.mk (dTms_map [r26]).symm (dTms_sz _) ?_)
     obtain ⟨p28, h⟩ := gdB h
     refine Ask.mk ⟨rfl, rfl, rfl⟩ (AppW.mk (dTms_app _ _) (dTms_sz _) (dTms_sz _) (by rw [dTms_len, dTms_len]; exact p28) ?_)
     refine Ask.mk (by kernel_rfl) ?_
     exact jt (x13 ++ [r26]) h rfl rfl rfl
    ·refine rg pg ?_
     refine rt ?_
     obtain rfl := Option.some.inj h
     exact en rfl rfl
theorem tree_Rebuild_1_253_me : ∀ (m : Nat) {t : Trm} {below : Int} {o2 : Int} {o3 : Int} {r : Trm}, tree_Rebuild_1_253_m m t below o2 o3 = some r → Ev Tryz.prog GL 326 [.agg ((dTm t).map V.d), .d (.int .i64 below), .ptr 1000 0, .ptr 1001 0] [(1000, .cells [.clo 294 [.ptr 1002 0, .ptr 1003 0]] 260), (1001, .cells [.clo 326 [.ptr 1000 0, .ptr 1001 0]] 195), (1002, .cells [.d (.int .i64 o2)] 3), (1003, .cells [.d (.int .i64 o3)] 3)] (.agg ((dTm r).map V.d)) [(1000, .cells [.clo 294 [.ptr 1002 0, .ptr 1003 0]] 260), (1001, .cells [.clo 326 [.ptr 1000 0, .ptr 1001 0]] 195), (1002, .cells [.d (.int .i64 o2)] 3), (1003, .cells [.d (.int .i64 o3)] 3)]
  | 0, _, _, _, _, _, h => nomatch (show none = some _ from h)
  | m + 1, _, _, _, _, _, h => tree_Rebuild_1_253_be (tree_Rebuild_1_253_m m) (fun h => tree_Rebuild_1_253_me m h) h
theorem tree_Rebuild_1_253_ev {t : Trm} {below : Int} {o2 : Int} {o3 : Int} {r : Trm} (h : tree_Rebuild_1_253 t below o2 o3 = some r) : Ev Tryz.prog GL 326 [.agg ((dTm t).map V.d), .d (.int .i64 below), .ptr 1000 0, .ptr 1001 0] [(1000, .cells [.clo 294 [.ptr 1002 0, .ptr 1003 0]] 260), (1001, .cells [.clo 326 [.ptr 1000 0, .ptr 1001 0]] 195), (1002, .cells [.d (.int .i64 o2)] 3), (1003, .cells [.d (.int .i64 o3)] 3)] (.agg ((dTm r).map V.d)) [(1000, .cells [.clo 294 [.ptr 1002 0, .ptr 1003 0]] 260), (1001, .cells [.clo 326 [.ptr 1000 0, .ptr 1001 0]] 195), (1002, .cells [.d (.int .i64 o2)] 3), (1003, .cells [.d (.int .i64 o3)] 3)] := tree_Rebuild_1_253_me FU h
theorem tree_Rebuild_591_ev {t : Trm} {o0 : Int} {o1 : Int} {r : Trm} (h : tree_Rebuild_591 t o0 o1 = some r) : Ev Tryz.prog GL 290 [.agg ((dTm t).map V.d), .clo 294 [.ptr 1000 0, .ptr 1001 0]] [(1000, .cells [.d (.int .i64 o0)] 3), (1001, .cells [.d (.int .i64 o1)] 3)] (.agg ((dTm r).map V.d)) [(1000, .cells [.d (.int .i64 o0)] 3), (1001, .cells [.d (.int .i64 o1)] 3)] := by
  refine evb pg Tryz.func290 rfl (by kernel_rfl) 10 [.cell 4 52] rfl rfl rfl (fun E ι0 => ?_)
  refine rg pg ?_
  refine rg pg ?_
  refine rg pg ?_
  refine rg pg ?_
  obtain ⟨r1, h2, h⟩ := bndB h
  refine callW [(1000, 3), (1001, 5), (1002, 1000), (1003, 1001)] (tree_Rebuild_1_253_ev h2) rfl rfl rfl rfl rfl ?_
  refine rt ?_
  obtain rfl := Option.some.inj h
  exact en rfl rfl
theorem tree_Lift_ev {t : Trm} {from_ : Int} {by_ : Int} {r : Trm} (h : tree_Lift t from_ by_ = some r) : Ev Tryz.prog GL 241 [.agg ((dTm t).map V.d), .d (.int .i64 from_), .d (.int .i64 by_)] [] (.agg ((dTm r).map V.d)) [] := by
  refine evb pg Tryz.func241 rfl (by kernel_rfl) 10 [.cell 6 52] rfl rfl rfl (fun E ι0 => ?_)
  refine rg pg ?_
  refine rg pg ?_
  obtain ⟨r1, h2, h⟩ := bndB h
  refine callW [(1000, 4), (1001, 5)] (tree_Rebuild_591_ev h2) rfl rfl rfl rfl rfl ?_
  refine rt ?_
  obtain rfl := Option.some.inj h
  exact en rfl rfl
theorem tree_LiftFormula_1_b49_ev {t : Trm} {below : Int} {o0 : Int} {o1 : Int} {r : Trm} (h : tree_LiftFormula_1_b49 t below o0 o1 = some r) : Ev Tryz.prog GL 251 [.agg ((dTm t).map V.d), .d (.int .i64 below), .ptr 1000 0, .ptr 1001 0] [(1000, .cells [.d (.int .i64 o0)] 3), (1001, .cells [.d (.int .i64 o1)] 3)] (.agg ((dTm r).map V.d)) [(1000, .cells [.d (.int .i64 o0)] 3), (1001, .cells [.d (.int .i64 o1)] 3)] := by
  refine evb pg Tryz.func251 rfl (by kernel_rfl) 13 [.cell 6 52] rfl rfl rfl (fun E ι0 => ?_)
  refine rg pg ?_
  refine rg pg ?_
  obtain ⟨r1, h2, h⟩ := bndB h
  refine callW0 (tree_Lift_ev h2) rfl ?_
  refine rt ?_
  obtain rfl := Option.some.inj h
  exact en rfl rfl
theorem tree_RebuildFormula_42c_be (self : Frm → Int → Int → Int → Option (Frm)) (hs : ∀ {f : Frm} {below : Int} {o0 : Int} {o1 : Int} {r : Frm}, self f below o0 o1 = some r → Ev Tryz.prog GL 250 [.agg ((dFm f).map V.d), .d (.int .i64 below), .clo 251 [.ptr 1000 0, .ptr 1001 0]] [(1000, .cells [.d (.int .i64 o0)] 3), (1001, .cells [.d (.int .i64 o1)] 3)] (.agg ((dFm r).map V.d)) [(1000, .cells [.d (.int .i64 o0)] 3), (1001, .cells [.d (.int .i64 o1)] 3)]) {f : Frm} {below : Int} {o0 : Int} {o1 : Int} {r : Frm} (h : tree_RebuildFormula_42c_b self f below o0 o1 = some r) : Ev Tryz.prog GL 250 [.agg ((dFm f).map V.d), .d (.int .i64 below), .clo 251 [.ptr 1000 0, .ptr 1001 0]] [(1000, .cells [.d (.int .i64 o0)] 3), (1001, .cells [.d (.int .i64 o1)] 3)] (.agg ((dFm r).map V.d)) [(1000, .cells [.d (.int .i64 o0)] 3), (1001, .cells [.d (.int .i64 o1)] 3)] := by
  refine evb pg Tryz.func250 rfl (by kernel_rfl) 58 [.cell 6 45] rfl rfl rfl (fun E ι0 => ?_)
  refine rg pg ?_
  refine rgd pg ?_
  obtain ⟨r1, h2, h⟩ := bndB h
  refine callW0 (tree_OwnType_ev h2) rfl ?_
  refine Ask.mk (by kernel_rfl) ?_
  refine sq ?_
  refine rg pg ?_
  refine LenW.mk (dTms_len _) ?_
  refine wrcN 201 7 3 5 52 rfl rfl rfl ?_
  refine rangeK (X := List Trm) pg f.terms _ rfl (fun x7 => [(1, .d (.int .i64 below)), (2, .clo 251 [.ptr 1000 0, .ptr 1001 0]), (3, .ptr 3 0), (6, .ptr 6 0), (7, .ptr 7 0), (19, .d (.slice (dTms f.terms)))]) (fun x7 => [(3, some (.cells ((dFm f).map V.d) 45)), (6, some (.cells [.d (.int .i64 0), .d (.int .i64 0), .d .nils, .d .nils, .d .nils] 45)), (7, some (.cells [.d (.int .i64 f.kind), .d (.int .i64 r1.kind), .d (.slice (dTys r1.args)), .own (dTms x7) 201, .d .nils] 45)), (1000, some (.cells [.d (.int .i64 o0)] 3)), (1001, some (.cells [.d (.int .i64 o1)] 3)), (201, some (.row (dTms x7).length 5 52))]) [3, 6, 7, 1000, 1001, 201] h rfl rfl rfl rfl (fun _ => ⟨rfl, rfl⟩) 19 rfl (dTms_len _) (fun k4 i5 a3 x7 _ g6 h => ?_) (fun x7 h => ?_)
  ·refine rg pg ?_
   refine IdxW.mk (Int.natCast_nonneg _) (dTms_get g6) rfl ?_
   refine rld pg ?_
   obtain ⟨r20, h21, h⟩ := bndB h
   refine callW [(1000, 1000), (1001, 1001)] (tree_LiftFormula_1_b49_ev h21) rfl rfl rfl rfl rfl ?_
   refine Ask.mk ⟨rfl, rfl⟩ (BsW.mk (dTms_map [r20]).symm (dTms_sz _) ?_)
   obtain ⟨p22, h⟩ := gdB h
   refine Ask.mk ⟨rfl, rfl, rfl⟩ (AppW.mk (dTms_app _ _) (dTms_sz _) (dTms_sz _) (by rw [dTms_len, dTms_len]; exact p22) ?_)
   refine Ask.mk (by kernel_rfl) ?_
   exact jt (x7 ++ [r20]) h rfl rfl rfl
  ·refine join (fun x29 : Int => ⟨[(1, .d (.int .i64 x29)), (2, .clo 251 [.ptr 1000 0, .ptr 1001 0]), (3, .ptr 3 0), (6, .ptr 6 0), (7, .ptr 7 0)], [(3, some (.cells ((dFm f).map V.d) 45)), (6, some (.cells [.d (.int .i64 0), .d (.int .i64 0), .d .nils, .d .nils, .d .nils] 45)), (7, some (.cells [.d (.int .i64 f.kind), .d (.int .i64 r1.kind), .d (.slice (dTys r1.args)), .own (dTms x7) 201, .d .nils] 45)), (1000, some (.cells [.d (.int .i64 o0)] 3)), (1001, some (.cells [.d (.int .i64 o1)] 3)), (201, some (.row (dTms x7).length 5 52))], [3, 6, 7, 1000, 1001, 201]⟩) (fun x29 => tree_RebuildFormula_42c_k1 self f o0 o1 r1 x7 x29) r ?_ (fun x29 h => ?_)
   ·refine rg pg ?_
    obtain ⟨r25, h26, h⟩ := bndB h
    refine callW0 (tree_Quantifier_ev h26) rfl ?_
    refine cd h rfl (fun h hb27 => ?_) (fun h hb27 => ?_)
    ·refine rl pg ?_
     exact jt (w64 (below + 1)) h rfl rfl rfl
    ·refine sk ?_
     exact jt below h rfl rfl rfl
   ·refine sq ?_
    refine rg pg ?_
    refine LenW.mk (dFms_len _) ?_
    refine wrcN 202 7 4 5 45 rfl rfl rfl ?_
    refine rangeK (X := List Frm) pg f.args _ rfl (fun x34 => [(1, .d (.int .i64 x29)), (2, .clo 251 [.ptr 1000 0, .ptr 1001 0]), (6, .ptr 6 0), (7, .ptr 7 0), (41, .d (.slice (dFms f.args)))]) (fun x34 => [(6, some (.cells [.d (.int .i64 0), .d (.int .i64 0), .d .nils, .d .nils, .d .nils] 45)), (7, some (.cells [.d (.int .i64 f.kind), .d (.int .i64 r1.kind), .d (.slice (dTys r1.args)), .own (dTms x7) 201, .own (dFms x34) 202] 45)), (1000, some (.cells [.d (.int .i64 o0)] 3)), (1001, some (.cells [.d (.int .i64 o1)] 3)), (201, some (.row (dTms x7).length 5 52)), (202, some (.row (dFms x34).length 5 45))]) [6, 7, 1000, 1001, 201, 202] h rfl rfl rfl rfl (fun _ => ⟨rfl, rfl⟩) 41 rfl (dFms_len _) (fun k31 i32 a30 x34 _ g33 h => ?_) (fun x34 h => ?_)
    ·refine rg pg ?_
     refine IdxW.mk (Int.natCast_nonneg _) (dFms_get g33) rfl ?_
     refine rld pg ?_
     obtain ⟨r47, h48, h⟩ := bndB h
     refine callW [(1000, 1000), (1001, 1001)] (hs h48) rfl rfl rfl rfl rfl ?_
     refine Ask.mk ⟨rfl, rfl⟩ (BsW.mk (dFms_map [r47]).symm (dFms_sz _) ?_)
     obtain ⟨p49, h⟩ := gdB h
     refine Ask.mk ⟨rfl, rfl, rfl⟩ (AppW.mk (dFms_app _ _) (dFms_sz _) (dFms_sz _) (by rw [dFms_len, dFms_len]; exact p49) ?_)
     refine Ask.mk (by kernel_rfl) ?_
     exact jt (x34 ++ [r47]) h rfl rfl rfl
    ·refine rg pg ?_
     refine rt ?_
     obtain rfl := Option.some.inj h
     exact en rfl rfl
theorem tree_RebuildFormula_42c_me : ∀ (m : Nat) {f : Frm} {below : Int} {o0 : Int} {o1 : Int} {r : Frm}, tree_RebuildFormula_42c_m m f below o0 o1 = some r → Ev Tryz.prog GL 250 [.agg ((dFm f).map V.d), .d (.int .i64 below), .clo 251 [.ptr 1000 0, .ptr 1001 0]] [(1000, .cells [.d (.int .i64 o0)] 3), (1001, .cells [.d (.int .i64 o1)] 3)] (.agg ((dFm r).map V.d)) [(1000, .cells [.d (.int .i64 o0)] 3), (1001, .cells [.d (.int .i64 o1)] 3)]
  | 0, _, _, _, _, _, h => nomatch (show none = some _ from h)
  | m + 1, _, _, _, _, _, h => tree_RebuildFormula_42c_be (tree_RebuildFormula_42c_m m) (fun h => tree_RebuildFormula_42c_me m h) h
theorem tree_RebuildFormula_42c_ev {f : Frm} {below : Int} {o0 : Int} {o1 : Int} {r : Frm} (h : tree_RebuildFormula_42c f below o0 o1 = some r) : Ev Tryz.prog GL 250 [.agg ((dFm f).map V.d), .d (.int .i64 below), .clo 251 [.ptr 1000 0, .ptr 1001 0]] [(1000, .cells [.d (.int .i64 o0)] 3), (1001, .cells [.d (.int .i64 o1)] 3)] (.agg ((dFm r).map V.d)) [(1000, .cells [.d (.int .i64 o0)] 3), (1001, .cells [.d (.int .i64 o1)] 3)] := tree_RebuildFormula_42c_me FU h
theorem tree_LiftFormula_ev {f : Frm} {from_ : Int} {by_ : Int} {r : Frm} (h : tree_LiftFormula f from_ by_ = some r) : Ev Tryz.prog GL 157 [.agg ((dFm f).map V.d), .d (.int .i64 from_), .d (.int .i64 by_)] [] (.agg ((dFm r).map V.d)) [] := by
  refine evb pg Tryz.func157 rfl (by kernel_rfl) 10 [.cell 6 45] rfl rfl rfl (fun E ι0 => ?_)
  refine rg pg ?_
  refine rg pg ?_
  obtain ⟨r1, h2, h⟩ := bndB h
  refine callW [(1000, 4), (1001, 5)] (tree_RebuildFormula_42c_ev h2) rfl rfl rfl rfl rfl ?_
  refine rt ?_
  obtain rfl := Option.some.inj h
  exact en rfl rfl
theorem formula_Lift_ev {f : Frm} {from_ : Int} {by_ : Int} {r : Frm × Int} (h : formula_Lift f from_ by_ = some r) : Ev Tryz.prog GL 44 [.agg ((dFm f).map V.d), .d (.int .i64 from_), .d (.int .i64 by_)] [] (.tup [.agg ((dFm r.1).map V.d), .d (.int .i64 r.2)]) [] := by
  refine evb pg Tryz.func44 rfl (by kernel_rfl) 33 [.cell 6 45, .tmp 7] rfl rfl rfl (fun E ι0 => ?_)
  refine rg pg ?_
  refine sq ?_
  refine rg pg ?_
  obtain ⟨r1, h2, h⟩ := bndB h
  refine callW0 (formula_Check_ev h2) rfl ?_
  refine rg pg ?_
  refine cd h rfl (fun h hb3 => ?_) (fun h hb3 => ?_)
  ·refine rg pg ?_
   refine rt ?_
   obtain rfl := Option.some.inj h
   exact en rfl rfl
  ·refine sk ?_
   refine sq ?_
   refine rg pg ?_
   obtain ⟨r4, h5, h⟩ := bndB h
   refine callW0 (formula_within_ev h5) rfl ?_
   refine gwF h (fun h hb6 => ?_) (fun h hb6 => ?_)
   ·refine gf rfl ?_
    refine gf rfl ?_
    refine gf rfl ?_
    refine gf rfl ?_
    refine gf rfl ?_
    refine cdT rfl ?_
    refine rg pg ?_
    refine rt ?_
    obtain rfl := Option.some.inj h
    exact en rfl rfl
   ·refine gl rfl ?_
    obtain ⟨r7, h8, h⟩ := bndB h
    refine callW0 (formula_within_ev h8) rfl ?_
    refine gl rfl ?_
    refine gwF h (fun h hb9 => ?_) (fun h hb9 => ?_)
    ·refine gf rfl ?_
     refine gf rfl ?_
     refine cdT rfl ?_
     refine rg pg ?_
     refine rt ?_
     obtain rfl := Option.some.inj h
     exact en rfl rfl
    ·refine gl rfl ?_
     obtain ⟨r10, h11, h⟩ := bndB h
     refine callW0 (tree_NearFormula_ev h11) rfl ?_
     refine gl rfl ?_
     refine cd h rfl (fun h hb12 => ?_) (fun h hb12 => ?_)
     ·refine rg pg ?_
      refine rt ?_
      obtain rfl := Option.some.inj h
      exact en rfl rfl
     ·refine sk ?_
      refine rg pg ?_
      obtain ⟨r13, h14, h⟩ := bndB h
      refine callW0 (tree_LiftFormula_ev h14) rfl ?_
      refine rt ?_
      obtain rfl := Option.some.inj h
      exact en rfl rfl
theorem tree_Count_1_9d7_ev {index : Int} {below : Int} {o0 : Int} {o1 : Int} {r : Int} (h : tree_Count_1_9d7 index below o0 o1 = some r) : Ev Tryz.prog GL 226 [.d (.int .i64 index), .d (.int .i64 below), .ptr 1000 0, .ptr 1001 0] [(1000, .cells [.d (.int .i64 o0)] 3), (1001, .cells [.d (.int .i64 o1)] 3)] (.tup []) [(1000, .cells [.d (.int .i64 o0)] 3), (1001, .cells [.d (.int .i64 r)] 3)] := by
  refine evb pg Tryz.func226 rfl (by kernel_rfl) 13 [] rfl rfl rfl (fun E ι0 => ?_)
  refine rg pg ?_
  refine cd h rfl (fun h hb1 => ?_) (fun h hb1 => ?_)
  ·refine rl pg ?_
   obtain rfl := Option.some.inj h
   exact enN rfl rfl
  ·refine sk ?_
   obtain rfl := Option.some.inj h
   exact enN rfl rfl
theorem tree_Each_1_436_be (self : Trm → Int → Int → Int → Option (Int)) (hs : ∀ {t : Trm} {below : Int} {o2 : Int} {o3 : Int} {r : Int}, self t below o2 o3 = some r → Ev Tryz.prog GL 238 [.agg ((dTm t).map V.d), .d (.int .i64 below), .ptr 1000 0, .ptr 1001 0] [(1000, .cells [.clo 226 [.ptr 1002 0, .ptr 1003 0]] 151), (1001, .cells [.clo 238 [.ptr 1000 0, .ptr 1001 0]] 116), (1002, .cells [.d (.int .i64 o2)] 3), (1003, .cells [.d (.int .i64 o3)] 3)] (.tup []) [(1000, .cells [.clo 226 [.ptr 1002 0, .ptr 1003 0]] 151), (1001, .cells [.clo 238 [.ptr 1000 0, .ptr 1001 0]] 116), (1002, .cells [.d (.int .i64 o2)] 3), (1003, .cells [.d (.int .i64 r)] 3)]) {t : Trm} {below : Int} {o2 : Int} {o3 : Int} {r : Int} (h : tree_Each_1_436_b self t below o2 o3 = some r) : Ev Tryz.prog GL 238 [.agg ((dTm t).map V.d), .d (.int .i64 below), .ptr 1000 0, .ptr 1001 0] [(1000, .cells [.clo 226 [.ptr 1002 0, .ptr 1003 0]] 151), (1001, .cells [.clo 238 [.ptr 1000 0, .ptr 1001 0]] 116), (1002, .cells [.d (.int .i64 o2)] 3), (1003, .cells [.d (.int .i64 o3)] 3)] (.tup []) [(1000, .cells [.clo 226 [.ptr 1002 0, .ptr 1003 0]] 151), (1001, .cells [.clo 238 [.ptr 1000 0, .ptr 1001 0]] 116), (1002, .cells [.d (.int .i64 o2)] 3), (1003, .cells [.d (.int .i64 r)] 3)] := by
  refine evb pg Tryz.func238 rfl (by kernel_rfl) 33 [] rfl rfl rfl (fun E ι0 => ?_)
  refine rg pg ?_
  refine join (fun x5 : Int => ⟨[(1, .d (.int .i64 below)), (3, .ptr 1001 0), (4, .ptr 4 0)], [(1001, some (.cells [.clo 238 [.ptr 1000 0, .ptr 1001 0]] 116)), (4, some (.cells ((dTm t).map V.d) 52)), (1000, some (.cells [.clo 226 [.ptr 1002 0, .ptr 1003 0]] 151)), (1002, some (.cells [.d (.int .i64 o2)] 3)), (1003, some (.cells [.d (.int .i64 x5)] 3))], [1001, 4, 1000, 1002, 1003]⟩) (fun x5 => tree_Each_1_436_k1 self t below o2 x5) r ?_ (fun x5 h => ?_)
  ·refine rg pg ?_
   refine cd h rfl (fun h hb1 => ?_) (fun h hb1 => ?_)
   ·refine rl pg ?_
    obtain ⟨r2, h3, h⟩ := bndB h
    refine callW [(1000, 1002), (1001, 1003)] (tree_Count_1_9d7_ev h3) rfl rfl rfl rfl rfl ?_
    exact jt r2 h rfl rfl rfl
   ·refine sk ?_
    exact jt o3 h rfl rfl rfl
  ·refine join (fun x8 : Int => ⟨[(1, .d (.int .i64 x8)), (3, .ptr 1001 0), (4, .ptr 4 0)], [(1001, some (.cells [.clo 238 [.ptr 1000 0, .ptr 1001 0]] 116)), (4, some (.cells ((dTm t).map V.d) 52)), (1000, some (.cells [.clo 226 [.ptr 1002 0, .ptr 1003 0]] 151)), (1002, some (.cells [.d (.int .i64 o2)] 3)), (1003, some (.cells [.d (.int .i64 x5)] 3))], [1001, 4, 1000, 1002, 1003]⟩) (fun x8 => tree_Each_1_436_k2 self t o2 x5 x8) r ?_ (fun x8 h => ?_)
   ·refine rg pg ?_
    refine cd h rfl (fun h hb6 => ?_) (fun h hb6 => ?_)
    ·refine rl pg ?_
     exact jt (w64 (below + 1)) h rfl rfl rfl
    ·refine sk ?_
     exact jt below h rfl rfl rfl
   ·refine rg pg ?_
    refine LenW.mk (dTms_len _) ?_
    refine rangeK (X := Int) pg t.args _ rfl (fun x13 => [(1, .d (.int .i64 x8)), (3, .ptr 1001 0), (22, .d (.slice (dTms t.args)))]) (fun x13 => [(1001, some (.cells [.clo 238 [.ptr 1000 0, .ptr 1001 0]] 116)), (1000, some (.cells [.clo 226 [.ptr 1002 0, .ptr 1003 0]] 151)), (1002, some (.cells [.d (.int .i64 o2)] 3)), (1003, some (.cells [.d (.int .i64 x13)] 3))]) [1001, 1000, 1002, 1003] h rfl rfl rfl rfl (fun _ => ⟨rfl, rfl⟩) 22 rfl (dTms_len _) (fun k10 i11 a9 x13 _ g12 h => ?_) (fun x13 h => ?_)
    ·refine rg pg ?_
     refine IdxW.mk (Int.natCast_nonneg _) (dTms_get g12) rfl ?_
     refine rl pg ?_
     obtain ⟨r21, h22, h⟩ := bndB h
     refine callW [(1000, 1000), (1001, 1001), (1002, 1002), (1003, 1003)] (hs h22) rfl rfl rfl rfl rfl ?_
     exact jt r21 h rfl rfl rfl
    ·obtain rfl := Option.some.inj h
     exact enN rfl rfl
theorem tree_Each_1_436_me : ∀ (m : Nat) {t : Trm} {below : Int} {o2 : Int} {o3 : Int} {r : Int}, tree_Each_1_436_m m t below o2 o3 = some r → Ev Tryz.prog GL 238 [.agg ((dTm t).map V.d), .d (.int .i64 below), .ptr 1000 0, .ptr 1001 0] [(1000, .cells [.clo 226 [.ptr 1002 0, .ptr 1003 0]] 151), (1001, .cells [.clo 238 [.ptr 1000 0, .ptr 1001 0]] 116), (1002, .cells [.d (.int .i64 o2)] 3), (1003, .cells [.d (.int .i64 o3)] 3)] (.tup []) [(1000, .cells [.clo 226 [.ptr 1002 0, .ptr 1003 0]] 151), (1001, .cells [.clo 238 [.ptr 1000 0, .ptr 1001 0]] 116), (1002, .cells [.d (.int .i64 o2)] 3), (1003, .cells [.d (.int .i64 r)] 3)]
  | 0, _, _, _, _, _, h => nomatch (show none = some _ from h)
  | m + 1, _, _, _, _, _, h => tree_Each_1_436_be (tree_Each_1_436_m m) (fun h => tree_Each_1_436_me m h) h
theorem tree_Each_1_436_ev {t : Trm} {below : Int} {o2 : Int} {o3 : Int} {r : Int} (h : tree_Each_1_436 t below o2 o3 = some r) : Ev Tryz.prog GL 238 [.agg ((dTm t).map V.d), .d (.int .i64 below), .ptr 1000 0, .ptr 1001 0] [(1000, .cells [.clo 226 [.ptr 1002 0, .ptr 1003 0]] 151), (1001, .cells [.clo 238 [.ptr 1000 0, .ptr 1001 0]] 116), (1002, .cells [.d (.int .i64 o2)] 3), (1003, .cells [.d (.int .i64 o3)] 3)] (.tup []) [(1000, .cells [.clo 226 [.ptr 1002 0, .ptr 1003 0]] 151), (1001, .cells [.clo 238 [.ptr 1000 0, .ptr 1001 0]] 116), (1002, .cells [.d (.int .i64 o2)] 3), (1003, .cells [.d (.int .i64 r)] 3)] := tree_Each_1_436_me FU h
theorem tree_Each_746_ev {t : Trm} {o0 : Int} {o1 : Int} {r : Int} (h : tree_Each_746 t o0 o1 = some r) : Ev Tryz.prog GL 142 [.agg ((dTm t).map V.d), .clo 226 [.ptr 1000 0, .ptr 1001 0]] [(1000, .cells [.d (.int .i64 o0)] 3), (1001, .cells [.d (.int .i64 o1)] 3)] (.tup []) [(1000, .cells [.d (.int .i64 o0)] 3), (1001, .cells [.d (.int .i64 r)] 3)] := by
  refine evb pg Tryz.func142 rfl (by kernel_rfl) 9 [] rfl rfl rfl (fun E ι0 => ?_)
  refine rg pg ?_
  refine rg pg ?_
  refine rg pg ?_
  refine rl pg ?_
  obtain ⟨r1, h2, h⟩ := bndB h
  refine callW [(1000, 3), (1001, 4), (1002, 1000), (1003, 1001)] (tree_Each_1_436_ev h2) rfl rfl rfl rfl rfl ?_
  obtain rfl := Option.some.inj h
  exact enN rfl rfl
theorem tree_Count_ev {t : Trm} {at_ : Int} {r : Int} (h : tree_Count t at_ = some r) : Ev Tryz.prog GL 118 [.agg ((dTm t).map V.d), .d (.int .i64 at_)] [] (.d (.int .i64 r)) [] := by
  refine evb pg Tryz.func118 rfl (by kernel_rfl) 10 [.tmp 4] rfl rfl rfl (fun E ι0 => ?_)
  refine rg pg ?_
  refine rg pg ?_
  refine rg pg ?_
  obtain ⟨r1, h2, h⟩ := bndB h
  refine callW [(1000, 3), (1001, 5)] (tree_Each_746_ev h2) rfl rfl rfl rfl rfl ?_
  refine rg pg ?_
  refine rt ?_
  obtain rfl := Option.some.inj h
  exact en rfl rfl
theorem tree_CountFormula_1_b49_ev {t : Trm} {below : Int} {o0 : Int} {o1 : Int} {r : Int} (h : tree_CountFormula_1_b49 t below o0 o1 = some r) : Ev Tryz.prog GL 228 [.agg ((dTm t).map V.d), .d (.int .i64 below), .ptr 1000 0, .ptr 1001 0] [(1000, .cells [.d (.int .i64 o0)] 3), (1001, .cells [.d (.int .i64 o1)] 3)] (.tup []) [(1000, .cells [.d (.int .i64 r)] 3), (1001, .cells [.d (.int .i64 o1)] 3)] := by
  refine evb pg Tryz.func228 rfl (by kernel_rfl) 13 [] rfl rfl rfl (fun E ι0 => ?_)
  refine rg pg ?_
  refine rld pg ?_
  obtain ⟨r1, h2, h⟩ := bndB h
  refine callW0 (tree_Count_ev h2) rfl ?_
  refine Ask.mk (by kernel_rfl) ?_
  obtain rfl := Option.some.inj h
  exact enN rfl rfl
theorem tree_EachTerm_863_be (self : Frm → Int → Int → Int → Option (Int)) (hs : ∀ {f : Frm} {below : Int} {o0 : Int} {o1 : Int} {r : Int}, self f below o0 o1 = some r → Ev Tryz.prog GL 145 [.agg ((dFm f).map V.d), .d (.int .i64 below), .clo 228 [.ptr 1000 0, .ptr 1001 0]] [(1000, .cells [.d (.int .i64 o0)] 3), (1001, .cells [.d (.int .i64 o1)] 3)] (.tup []) [(1000, .cells [.d (.int .i64 r)] 3), (1001, .cells [.d (.int .i64 o1)] 3)]) {f : Frm} {below : Int} {o0 : Int} {o1 : Int} {r : Int} (h : tree_EachTerm_863_b self f below o0 o1 = some r) : Ev Tryz.prog GL 145 [.agg ((dFm f).map V.d), .d (.int .i64 below), .clo 228 [.ptr 1000 0, .ptr 1001 0]] [(1000, .cells [.d (.int .i64 o0)] 3), (1001, .cells [.d (.int .i64 o1)] 3)] (.tup []) [(1000, .cells [.d (.int .i64 r)] 3), (1001, .cells [.d (.int .i64 o1)] 3)] := by
  refine evb pg Tryz.func145 rfl (by kernel_rfl) 39 [] rfl rfl rfl (fun E ι0 => ?_)
  refine rg pg ?_
  refine sq ?_
  refine rg pg ?_
  refine LenW.mk (dTms_len _) ?_
  refine rangeK (X := Int) pg f.terms _ rfl (fun x5 => [(1, .d (.int .i64 below)), (2, .clo 228 [.ptr 1000 0, .ptr 1001 0]), (3, .ptr 3 0), (11, .d (.slice (dTms f.terms)))]) (fun x5 => [(3, some (.cells ((dFm f).map V.d) 45)), (1000, some (.cells [.d (.int .i64 x5)] 3)), (1001, some (.cells [.d (.int .i64 o1)] 3))]) [3, 1000, 1001] h rfl rfl rfl rfl (fun _ => ⟨rfl, rfl⟩) 11 rfl (dTms_len _) (fun k2 i3 a1 x5 _ g4 h => ?_) (fun x5 h => ?_)
  ·refine rg pg ?_
   refine IdxW.mk (Int.natCast_nonneg _) (dTms_get g4) rfl ?_
   refine rl pg ?_
   obtain ⟨r13, h14, h⟩ := bndB h
   refine callW [(1000, 1000), (1001, 1001)] (tree_CountFormula_1_b49_ev h14) rfl rfl rfl rfl rfl ?_
   exact jt r13 h rfl rfl rfl
  ·refine join (fun x21 : Int => ⟨[(1, .d (.int .i64 x21)), (2, .clo 228 [.ptr 1000 0, .ptr 1001 0]), (3, .ptr 3 0)], [(3, some (.cells ((dFm f).map V.d) 45)), (1000, some (.cells [.d (.int .i64 x5)] 3)), (1001, some (.cells [.d (.int .i64 o1)] 3))], [3, 1000, 1001]⟩) (fun x21 => tree_EachTerm_863_k1 self f o1 x5 x21) r ?_ (fun x21 h => ?_)
   ·refine rg pg ?_
    obtain ⟨r17, h18, h⟩ := bndB h
    refine callW0 (tree_Quantifier_ev h18) rfl ?_
    refine cd h rfl (fun h hb19 => ?_) (fun h hb19 => ?_)
    ·refine rl pg ?_
     exact jt (w64 (below + 1)) h rfl rfl rfl
    ·refine sk ?_
     exact jt below h rfl rfl rfl
   ·refine rg pg ?_
    refine LenW.mk (dFms_len _) ?_
    refine rangeK (X := Int) pg f.args _ rfl (fun x26 => [(1, .d (.int .i64 x21)), (2, .clo 228 [.ptr 1000 0, .ptr 1001 0]), (28, .d (.slice (dFms f.args)))]) (fun x26 => [(1000, some (.cells [.d (.int .i64 x26)] 3)), (1001, some (.cells [.d (.int .i64 o1)] 3))]) [1000, 1001] h rfl rfl rfl rfl (fun _ => ⟨rfl, rfl⟩) 28 rfl (dFms_len _) (fun k23 i24 a22 x26 _ g25 h => ?_) (fun x26 h => ?_)
    ·refine rg pg ?_
     refine IdxW.mk (Int.natCast_nonneg _) (dFms_get g25) rfl ?_
     refine rl pg ?_
     obtain ⟨r34, h35, h⟩ := bndB h
     refine callW [(1000, 1000), (1001, 1001)] (hs h35) rfl rfl rfl rfl rfl ?_
     exact jt r34 h rfl rfl rfl
    ·obtain rfl := Option.some.inj h
     exact enN rfl rfl
theorem tree_EachTerm_863_me : ∀ (m : Nat) {f : Frm} {below : Int} {o0 : Int} {o1 : Int} {r : Int}, tree_EachTerm_863_m m f below o0 o1 = some r → Ev Tryz.prog GL 145 [.agg ((dFm f).map V.d), .d (.int .i64 below), .clo 228 [.ptr 1000 0, .ptr 1001 0]] [(1000, .cells [.d (.int .i64 o0)] 3), (1001, .cells [.d (.int .i64 o1)] 3)] (.tup []) [(1000, .cells [.d (.int .i64 r)] 3), (1001, .cells [.d (.int .i64 o1)] 3)]
  | 0, _, _, _, _, _, h => nomatch (show none = some _ from h)
  | m + 1, _, _, _, _, _, h => tree_EachTerm_863_be (tree_EachTerm_863_m m) (fun h => tree_EachTerm_863_me m h) h
theorem tree_EachTerm_863_ev {f : Frm} {below : Int} {o0 : Int} {o1 : Int} {r : Int} (h : tree_EachTerm_863 f below o0 o1 = some r) : Ev Tryz.prog GL 145 [.agg ((dFm f).map V.d), .d (.int .i64 below), .clo 228 [.ptr 1000 0, .ptr 1001 0]] [(1000, .cells [.d (.int .i64 o0)] 3), (1001, .cells [.d (.int .i64 o1)] 3)] (.tup []) [(1000, .cells [.d (.int .i64 r)] 3), (1001, .cells [.d (.int .i64 o1)] 3)] := tree_EachTerm_863_me FU h
theorem tree_CountFormula_ev {f : Frm} {at_ : Int} {r : Int} (h : tree_CountFormula f at_ = some r) : Ev Tryz.prog GL 121 [.agg ((dFm f).map V.d), .d (.int .i64 at_)] [] (.d (.int .i64 r)) [] := by
  refine evb pg Tryz.func121 rfl (by kernel_rfl) 10 [.tmp 4] rfl rfl rfl (fun E ι0 => ?_)
  refine rg pg ?_
  refine rg pg ?_
  refine rg pg ?_
  obtain ⟨r1, h2, h⟩ := bndB h
  refine callW [(1000, 5), (1001, 3)] (tree_EachTerm_863_ev h2) rfl rfl rfl rfl rfl ?_
  refine rg pg ?_
  refine rt ?_
  obtain rfl := Option.some.inj h
  exact en rfl rfl
theorem tree_Put_1_fa2_ev {index : Int} {below : Int} {o0 : Int} {o1 : Trm} {r : Trm} (h : tree_Put_1_fa2 index below o0 o1 = some r) : Ev Tryz.prog GL 291 [.d (.int .i64 index), .d (.int .i64 below), .ptr 1000 0, .ptr 1001 0] [(1000, .cells [.d (.int .i64 o0)] 3), (1001, .cells ((dTm o1).map V.d) 52)] (.agg ((dTm r).map V.d)) [(1000, .cells [.d (.int .i64 o0)] 3), (1001, .cells ((dTm o1).map V.d) 52)] := by
  refine evb pg Tryz.func291 rfl (by kernel_rfl) 29 [.cell 6 52] rfl rfl rfl (fun E ι0 => ?_)
  refine rg pg ?_
  refine sq ?_
  refine rg pg ?_
  refine bk ?_
  refine rg pg ?_
  refine cd h rfl (fun h hb1 => ?_) (fun h hb1 => ?_)
  ·refine rg pg ?_
   obtain ⟨r2, h3, h⟩ := bndB h
   refine callW0 (tree_Lift_ev h3) rfl ?_
   refine rt ?_
   obtain rfl := Option.some.inj h
   exact en rfl rfl
  ·refine rg pg ?_
   refine cd h rfl (fun h hb4 => ?_) (fun h hb4 => ?_)
   ·refine rg pg ?_
    obtain ⟨r5, h6, h⟩ := bndB h
    refine callW0 (tree_Var_ev h6) rfl ?_
    refine rt ?_
    obtain rfl := Option.some.inj h
    exact en rfl rfl
   ·refine sk ?_
    refine rg pg ?_
    obtain ⟨r7, h8, h⟩ := bndB h
    refine callW0 (tree_Var_ev h8) rfl ?_
    refine rt ?_
    obtain rfl := Option.some.inj h
    exact en rfl rfl
theorem tree_Rebuild_1_a63_be (self : Trm → Int → Int → Trm → Option (Trm)) (hs : ∀ {t : Trm} {below : Int} {o2 : Int} {o3 : Trm} {r : Trm}, self t below o2 o3 = some r → Ev Tryz.prog GL 326 [.agg ((dTm t).map V.d), .d (.int .i64 below), .ptr 1000 0, .ptr 1001 0] [(1000, .cells [.clo 291 [.ptr 1002 0, .ptr 1003 0]] 260), (1001, .cells [.clo 326 [.ptr 1000 0, .ptr 1001 0]] 195), (1002, .cells [.d (.int .i64 o2)] 3), (1003, .cells ((dTm o3).map V.d) 52)] (.agg ((dTm r).map V.d)) [(1000, .cells [.clo 291 [.ptr 1002 0, .ptr 1003 0]] 260), (1001, .cells [.clo 326 [.ptr 1000 0, .ptr 1001 0]] 195), (1002, .cells [.d (.int .i64 o2)] 3), (1003, .cells ((dTm o3).map V.d) 52)]) {t : Trm} {below : Int} {o2 : Int} {o3 : Trm} {r : Trm} (h : tree_Rebuild_1_a63_b self t below o2 o3 = some r) : Ev Tryz.prog GL 326 [.agg ((dTm t).map V.d), .d (.int .i64 below), .ptr 1000 0, .ptr 1001 0] [(1000, .cells [.clo 291 [.ptr 1002 0, .ptr 1003 0]] 260), (1001, .cells [.clo 326 [.ptr 1000 0, .ptr 1001 0]] 195), (1002, .cells [.d (.int .i64 o2)] 3), (1003, .cells ((dTm o3).map V.d) 52)] (.agg ((dTm r).map V.d)) [(1000, .cells [.clo 291 [.ptr 1002 0, .ptr 1003 0]] 260), (1001, .cells [.clo 326 [.ptr 1000 0, .ptr 1001 0]] 195), (1002, .cells [.d (.int .i64 o2)] 3), (1003, .cells ((dTm o3).map V.d) 52)] := by
  refine evb pg Tryz.func326 rfl (by kernel_rfl) 49 [.cell 6 52] rfl rfl rfl (fun E ι0 => ?_)
  refine rg pg ?_
  refine sq ?_
  refine rg pg ?_
  refine cd h rfl (fun h hb1 => ?_) (fun h hb1 => ?_)
  ·refine rg pg ?_
   obtain ⟨r2, h3, h⟩ := bndB h
   refine callW [(1000, 1002), (1001, 1003)] (tree_Put_1_fa2_ev h3) rfl rfl rfl rfl rfl ?_
   refine rt ?_
   obtain rfl := Option.some.inj h
   exact en rfl rfl
  ·refine sk ?_
   refine rgd pg ?_
   obtain ⟨r4, h5, h⟩ := bndB h
   refine callW0 (tree_OwnType_ev h5) rfl ?_
   refine Ask.mk (by kernel_rfl) ?_
   refine join (fun x8 : Int => ⟨[(1, .d (.int .i64 x8)), (3, .ptr 1001 0), (4, .ptr 4 0), (6, .ptr 6 0), (7, .ptr 7 0)], [(1001, some (.cells [.clo 326 [.ptr 1000 0, .ptr 1001 0]] 195)), (4, some (.cells ((dTm t).map V.d) 52)), (6, some (.cells [.d (.int .i64 0), .d (.int .i64 0), .d (.int .i64 0), .d .nils, .d .nils] 52)), (7, some (.cells [.d (.int .i64 t.kind), .d (.int .i64 t.index), .d (.int .i64 r4.kind), .d (.slice (dTys r4.args)), .d .nils] 52)), (1000, some (.cells [.clo 291 [.ptr 1002 0, .ptr 1003 0]] 260)), (1002, some (.cells [.d (.int .i64 o2)] 3)), (1003, some (.cells ((dTm o3).map V.d) 52))], [1001, 4, 6, 7, 1000, 1002, 1003]⟩) (fun x8 => tree_Rebuild_1_a63_k1 self t o2 o3 r4 x8) r ?_ (fun x8 h => ?_)
   ·refine rg pg ?_
    refine cd h rfl (fun h hb6 => ?_) (fun h hb6 => ?_)
    ·refine rl pg ?_
     exact jt (w64 (below + 1)) h rfl rfl rfl
    ·refine sk ?_
     exact jt below h rfl rfl rfl
   ·refine sq ?_
    refine rg pg ?_
    refine LenW.mk (dTms_len _) ?_
    refine wrcN 201 7 4 5 52 rfl rfl rfl ?_
    refine rangeK (X := List Trm) pg t.args _ rfl (fun x13 => [(1, .d (.int .i64 x8)), (3, .ptr 1001 0), (6, .ptr 6 0), (7, .ptr 7 0), (32, .d (.slice (dTms t.args)))]) (fun x13 => [(1001, some (.cells [.clo 326 [.ptr 1000 0, .ptr 1001 0]] 195)), (6, some (.cells [.d (.int .i64 0), .d (.int .i64 0), .d (.int .i64 0), .d .nils, .d .nils] 52)), (7, some (.cells [.d (.int .i64 t.kind), .d (.int .i64 t.index), .d (.int .i64 r4.kind), .d (.slice (dTys r4.args)), .own (dTms x13) 201] 52)), (201, some (.row (dTms x13).length 5 52)), (1000, some (.cells [.clo 291 [.ptr 1002 0, .ptr 1003 0]] 260)), (1002, some (.cells [.d (.int .i64 o2)] 3)), (1003, some (.cells ((dTm o3).map V.d) 52))]) [1001, 6, 7, 201, 1000, 1002, 1003] h rfl rfl rfl rfl (fun _ => ⟨rfl, rfl⟩) 32 rfl (dTms_len _) (fun k10 i11 a9 x13 _ g12 h => ?_) (fun x13 h => ?_)
    ·refine rg pg ?_
     refine IdxW.mk (Int.natCast_nonneg _) (dTms_get g12) rfl ?_
     refine rld pg ?_
     obtain ⟨r26, h27, h⟩ := bndB h
     refine callW [(1000, 1000), (1001, 1001), (1002, 1002), (1003, 1003)] (hs h27) rfl rfl rfl rfl rfl ?_
     refine Ask.mk ⟨rfl, rfl⟩ (BsW.mk (dTms_map [r26]).symm (dTms_sz _) ?_)
     obtain ⟨p28, h⟩ := gdB h
     refine Ask.mk ⟨rfl, rfl, rfl⟩ (AppW.mk (dTms_app _ _) (dTms_sz _) (dTms_sz _) (by rw [dTms_len, dTms_len]; exact p28) ?_)
     refine Ask.mk (by kernel_rfl) ?_
     exact jt (x13 ++ [r26]) h rfl rfl rfl
    ·refine rg pg ?_
     refine rt ?_
     obtain rfl := Option.some.inj h
     exact en rfl rfl
theorem tree_Rebuild_1_a63_me : ∀ (m : Nat) {t : Trm} {below : Int} {o2 : Int} {o3 : Trm} {r : Trm}, tree_Rebuild_1_a63_m m t below o2 o3 = some r → Ev Tryz.prog GL 326 [.agg ((dTm t).map V.d), .d (.int .i64 below), .ptr 1000 0, .ptr 1001 0] [(1000, .cells [.clo 291 [.ptr 1002 0, .ptr 1003 0]] 260), (1001, .cells [.clo 326 [.ptr 1000 0, .ptr 1001 0]] 195), (1002, .cells [.d (.int .i64 o2)] 3), (1003, .cells ((dTm o3).map V.d) 52)] (.agg ((dTm r).map V.d)) [(1000, .cells [.clo 291 [.ptr 1002 0, .ptr 1003 0]] 260), (1001, .cells [.clo 326 [.ptr 1000 0, .ptr 1001 0]] 195), (1002, .cells [.d (.int .i64 o2)] 3), (1003, .cells ((dTm o3).map V.d) 52)]
  | 0, _, _, _, _, _, h => nomatch (show none = some _ from h)
  | m + 1, _, _, _, _, _, h => tree_Rebuild_1_a63_be (tree_Rebuild_1_a63_m m) (fun h => tree_Rebuild_1_a63_me m h) h
theorem tree_Rebuild_1_a63_ev {t : Trm} {below : Int} {o2 : Int} {o3 : Trm} {r : Trm} (h : tree_Rebuild_1_a63 t below o2 o3 = some r) : Ev Tryz.prog GL 326 [.agg ((dTm t).map V.d), .d (.int .i64 below), .ptr 1000 0, .ptr 1001 0] [(1000, .cells [.clo 291 [.ptr 1002 0, .ptr 1003 0]] 260), (1001, .cells [.clo 326 [.ptr 1000 0, .ptr 1001 0]] 195), (1002, .cells [.d (.int .i64 o2)] 3), (1003, .cells ((dTm o3).map V.d) 52)] (.agg ((dTm r).map V.d)) [(1000, .cells [.clo 291 [.ptr 1002 0, .ptr 1003 0]] 260), (1001, .cells [.clo 326 [.ptr 1000 0, .ptr 1001 0]] 195), (1002, .cells [.d (.int .i64 o2)] 3), (1003, .cells ((dTm o3).map V.d) 52)] := tree_Rebuild_1_a63_me FU h
theorem tree_Rebuild_9ab_ev {t : Trm} {o0 : Int} {o1 : Trm} {r : Trm} (h : tree_Rebuild_9ab t o0 o1 = some r) : Ev Tryz.prog GL 290 [.agg ((dTm t).map V.d), .clo 291 [.ptr 1000 0, .ptr 1001 0]] [(1000, .cells [.d (.int .i64 o0)] 3), (1001, .cells ((dTm o1).map V.d) 52)] (.agg ((dTm r).map V.d)) [(1000, .cells [.d (.int .i64 o0)] 3), (1001, .cells ((dTm o1).map V.d) 52)] := by
  refine evb pg Tryz.func290 rfl (by kernel_rfl) 10 [.cell 4 52] rfl rfl rfl (fun E ι0 => ?_)
  refine rg pg ?_
  refine rg pg ?_
  refine rg pg ?_
  refine rg pg ?_
  obtain ⟨r1, h2, h⟩ := bndB h
  refine callW [(1000, 3), (1001, 5), (1002, 1000), (1003, 1001)] (tree_Rebuild_1_a63_ev h2) rfl rfl rfl rfl rfl ?_
  refine rt ?_
  obtain rfl := Option.some.inj h
  exact en rfl rfl
theorem tree_Put_ev {t : Trm} {at_ : Int} {s : Trm} {r : Trm} (h : tree_Put t at_ s = some r) : Ev Tryz.prog GL 230 [.agg ((dTm t).map V.d), .d (.int .i64 at_), .agg ((dTm s).map V.d)] [] (.agg ((dTm r).map V.d)) [] := by
  refine evb pg Tryz.func230 rfl (by kernel_rfl) 10 [.cell 6 52] rfl rfl rfl (fun E ι0 => ?_)
  refine rg pg ?_
  refine rg pg ?_
  obtain ⟨r1, h2, h⟩ := bndB h
  refine callW [(1000, 4), (1001, 5)] (tree_Rebuild_9ab_ev h2) rfl rfl rfl rfl rfl ?_
  refine rt ?_
  obtain rfl := Option.some.inj h
  exact en rfl rfl
theorem tree_PutFormula_1_f22_ev {t : Trm} {below : Int} {o0 : Int} {o1 : Trm} {r : Trm} (h : tree_PutFormula_1_f22 t below o0 o1 = some r) : Ev Tryz.prog GL 252 [.agg ((dTm t).map V.d), .d (.int .i64 below), .ptr 1000 0, .ptr 1001 0] [(1000, .cells [.d (.int .i64 o0)] 3), (1001, .cells ((dTm o1).map V.d) 52)] (.agg ((dTm r).map V.d)) [(1000, .cells [.d (.int .i64 o0)] 3), (1001, .cells ((dTm o1).map V.d) 52)] := by
  refine evb pg Tryz.func252 rfl (by kernel_rfl) 13 [.cell 6 52] rfl rfl rfl (fun E ι0 => ?_)
  refine rg pg ?_
  refine rg pg ?_
  obtain ⟨r1, h2, h⟩ := bndB h
  refine callW0 (tree_Put_ev h2) rfl ?_
  refine rt ?_
  obtain rfl := Option.some.inj h
  exact en rfl rfl
theorem tree_RebuildFormula_2a2_be (self : Frm → Int → Int → Trm → Option (Frm)) (hs : ∀ {f : Frm} {below : Int} {o0 : Int} {o1 : Trm} {r : Frm}, self f below o0 o1 = some r → Ev Tryz.prog GL 250 [.agg ((dFm f).map V.d), .d (.int .i64 below), .clo 252 [.ptr 1000 0, .ptr 1001 0]] [(1000, .cells [.d (.int .i64 o0)] 3), (1001, .cells ((dTm o1).map V.d) 52)] (.agg ((dFm r).map V.d)) [(1000, .cells [.d (.int .i64 o0)] 3), (1001, .cells ((dTm o1).map V.d) 52)]) {f : Frm} {below : Int} {o0 : Int} {o1 : Trm} {r : Frm} (h : tree_RebuildFormula_2a2_b self f below o0 o1 = some r) : Ev Tryz.prog GL 250 [.agg ((dFm f).map V.d), .d (.int .i64 below), .clo 252 [.ptr 1000 0, .ptr 1001 0]] [(1000, .cells [.d (.int .i64 o0)] 3), (1001, .cells ((dTm o1).map V.d) 52)] (.agg ((dFm r).map V.d)) [(1000, .cells [.d (.int .i64 o0)] 3), (1001, .cells ((dTm o1).map V.d) 52)] := by
  refine evb pg Tryz.func250 rfl (by kernel_rfl) 58 [.cell 6 45] rfl rfl rfl (fun E ι0 => ?_)
  refine rg pg ?_
  refine rgd pg ?_
  obtain ⟨r1, h2, h⟩ := bndB h
  refine callW0 (tree_OwnType_ev h2) rfl ?_
  refine Ask.mk (by kernel_rfl) ?_
  refine sq ?_
  refine rg pg ?_
  refine LenW.mk (dTms_len _) ?_
  refine wrcN 201 7 3 5 52 rfl rfl rfl ?_
  refine rangeK (X := List Trm) pg f.terms _ rfl (fun x7 => [(1, .d (.int .i64 below)), (2, .clo 252 [.ptr 1000 0, .ptr 1001 0]), (3, .ptr 3 0), (6, .ptr 6 0), (7, .ptr 7 0), (19, .d (.slice (dTms f.terms)))]) (fun x7 => [(3, some (.cells ((dFm f).map V.d) 45)), (6, some (.cells [.d (.int .i64 0), .d (.int .i64 0), .d .nils, .d .nils, .d .nils] 45)), (7, some (.cells [.d (.int .i64 f.kind), .d (.int .i64 r1.kind), .d (.slice (dTys r1.args)), .own (dTms x7) 201, .d .nils] 45)), (1000, some (.cells [.d (.int .i64 o0)] 3)), (1001, some (.cells ((dTm o1).map V.d) 52)), (201, some (.row (dTms x7).length 5 52))]) [3, 6, 7, 1000, 1001, 201] h rfl rfl rfl rfl (fun _ => ⟨rfl, rfl⟩) 19 rfl (dTms_len _) (fun k4 i5 a3 x7 _ g6 h => ?_) (fun x7 h => ?_)
  ·refine rg pg ?_
   refine IdxW.mk (Int.natCast_nonneg _) (dTms_get g6) rfl ?_
   refine rld pg ?_
   obtain ⟨r20, h21, h⟩ := bndB h
   refine callW [(1000, 1000), (1001, 1001)] (tree_PutFormula_1_f22_ev h21) rfl rfl rfl rfl rfl ?_
   refine Ask.mk ⟨rfl, rfl⟩ (BsW.mk (dTms_map [r20]).symm (dTms_sz _) ?_)
   obtain ⟨p22, h⟩ := gdB h
   refine Ask.mk ⟨rfl, rfl, rfl⟩ (AppW.mk (dTms_app _ _) (dTms_sz _) (dTms_sz _) (by rw [dTms_len, dTms_len]; exact p22) ?_)
   refine Ask.mk (by kernel_rfl) ?_
   exact jt (x7 ++ [r20]) h rfl rfl rfl
  ·refine join (fun x29 : Int => ⟨[(1, .d (.int .i64 x29)), (2, .clo 252 [.ptr 1000 0, .ptr 1001 0]), (3, .ptr 3 0), (6, .ptr 6 0), (7, .ptr 7 0)], [(3, some (.cells ((dFm f).map V.d) 45)), (6, some (.cells [.d (.int .i64 0), .d (.int .i64 0), .d .nils, .d .nils, .d .nils] 45)), (7, some (.cells [.d (.int .i64 f.kind), .d (.int .i64 r1.kind), .d (.slice (dTys r1.args)), .own (dTms x7) 201, .d .nils] 45)), (1000, some (.cells [.d (.int .i64 o0)] 3)), (1001, some (.cells ((dTm o1).map V.d) 52)), (201, some (.row (dTms x7).length 5 52))], [3, 6, 7, 1000, 1001, 201]⟩) (fun x29 => tree_RebuildFormula_2a2_k1 self f o0 o1 r1 x7 x29) r ?_ (fun x29 h => ?_)
   ·refine rg pg ?_
    obtain ⟨r25, h26, h⟩ := bndB h
    refine callW0 (tree_Quantifier_ev h26) rfl ?_
    refine cd h rfl (fun h hb27 => ?_) (fun h hb27 => ?_)
    ·refine rl pg ?_
     exact jt (w64 (below + 1)) h rfl rfl rfl
    ·refine sk ?_
     exact jt below h rfl rfl rfl
   ·refine sq ?_
    refine rg pg ?_
    refine LenW.mk (dFms_len _) ?_
    refine wrcN 202 7 4 5 45 rfl rfl rfl ?_
    refine rangeK (X := List Frm) pg f.args _ rfl (fun x34 => [(1, .d (.int .i64 x29)), (2, .clo 252 [.ptr 1000 0, .ptr 1001 0]), (6, .ptr 6 0), (7, .ptr 7 0), (41, .d (.slice (dFms f.args)))]) (fun x34 => [(6, some (.cells [.d (.int .i64 0), .d (.int .i64 0), .d .nils, .d .nils, .d .nils] 45)), (7, some (.cells [.d (.int .i64 f.kind), .d (.int .i64 r1.kind), .d (.slice (dTys r1.args)), .own (dTms x7) 201, .own (dFms x34) 202] 45)), (1000, some (.cells [.d (.int .i64 o0)] 3)), (1001, some (.cells ((dTm o1).map V.d) 52)), (201, some (.row (dTms x7).length 5 52)), (202, some (.row (dFms x34).length 5 45))]) [6, 7, 1000, 1001, 201, 202] h rfl rfl rfl rfl (fun _ => ⟨rfl, rfl⟩) 41 rfl (dFms_len _) (fun k31 i32 a30 x34 _ g33 h => ?_) (fun x34 h => ?_)
    ·refine rg pg ?_
     refine IdxW.mk (Int.natCast_nonneg _) (dFms_get g33) rfl ?_
     refine rld pg ?_
     obtain ⟨r47, h48, h⟩ := bndB h
     refine callW [(1000, 1000), (1001, 1001)] (hs h48) rfl rfl rfl rfl rfl ?_
     refine Ask.mk ⟨rfl, rfl⟩ (BsW.mk (dFms_map [r47]).symm (dFms_sz _) ?_)
     obtain ⟨p49, h⟩ := gdB h
     refine Ask.mk ⟨rfl, rfl, rfl⟩ (AppW.mk (dFms_app _ _) (dFms_sz _) (dFms_sz _) (by rw [dFms_len, dFms_len]; exact p49) ?_)
     refine Ask.mk (by kernel_rfl) ?_
     exact jt (x34 ++ [r47]) h rfl rfl rfl
    ·refine rg pg ?_
     refine rt ?_
     obtain rfl := Option.some.inj h
     exact en rfl rfl
theorem tree_RebuildFormula_2a2_me : ∀ (m : Nat) {f : Frm} {below : Int} {o0 : Int} {o1 : Trm} {r : Frm}, tree_RebuildFormula_2a2_m m f below o0 o1 = some r → Ev Tryz.prog GL 250 [.agg ((dFm f).map V.d), .d (.int .i64 below), .clo 252 [.ptr 1000 0, .ptr 1001 0]] [(1000, .cells [.d (.int .i64 o0)] 3), (1001, .cells ((dTm o1).map V.d) 52)] (.agg ((dFm r).map V.d)) [(1000, .cells [.d (.int .i64 o0)] 3), (1001, .cells ((dTm o1).map V.d) 52)]
  | 0, _, _, _, _, _, h => nomatch (show none = some _ from h)
  | m + 1, _, _, _, _, _, h => tree_RebuildFormula_2a2_be (tree_RebuildFormula_2a2_m m) (fun h => tree_RebuildFormula_2a2_me m h) h
theorem tree_RebuildFormula_2a2_ev {f : Frm} {below : Int} {o0 : Int} {o1 : Trm} {r : Frm} (h : tree_RebuildFormula_2a2 f below o0 o1 = some r) : Ev Tryz.prog GL 250 [.agg ((dFm f).map V.d), .d (.int .i64 below), .clo 252 [.ptr 1000 0, .ptr 1001 0]] [(1000, .cells [.d (.int .i64 o0)] 3), (1001, .cells ((dTm o1).map V.d) 52)] (.agg ((dFm r).map V.d)) [(1000, .cells [.d (.int .i64 o0)] 3), (1001, .cells ((dTm o1).map V.d) 52)] := tree_RebuildFormula_2a2_me FU h
theorem tree_PutFormula_ev {f : Frm} {at_ : Int} {s : Trm} {r : Frm} (h : tree_PutFormula f at_ s = some r) : Ev Tryz.prog GL 158 [.agg ((dFm f).map V.d), .d (.int .i64 at_), .agg ((dTm s).map V.d)] [] (.agg ((dFm r).map V.d)) [] := by
  refine evb pg Tryz.func158 rfl (by kernel_rfl) 10 [.cell 6 45] rfl rfl rfl (fun E ι0 => ?_)
  refine rg pg ?_
  refine rg pg ?_
  obtain ⟨r1, h2, h⟩ := bndB h
  refine callW [(1000, 4), (1001, 5)] (tree_RebuildFormula_2a2_ev h2) rfl rfl rfl rfl rfl ?_
  refine rt ?_
  obtain rfl := Option.some.inj h
  exact en rfl rfl
theorem formula_Lower_ev {f : Frm} {at_ : Int} {r : Frm × Int} (h : formula_Lower f at_ = some r) : Ev Tryz.prog GL 45 [.agg ((dFm f).map V.d), .d (.int .i64 at_)] [] (.tup [.agg ((dFm r.1).map V.d), .d (.int .i64 r.2)]) [] := by
  refine evb pg Tryz.func45 rfl (by kernel_rfl) 26 [.cell 4 45, .tmp 5] rfl rfl rfl (fun E ι0 => ?_)
  refine rg pg ?_
  refine sq ?_
  refine rg pg ?_
  obtain ⟨r1, h2, h⟩ := bndB h
  refine callW0 (formula_Check_ev h2) rfl ?_
  refine rg pg ?_
  refine cd h rfl (fun h hb3 => ?_) (fun h hb3 => ?_)
  ·refine rg pg ?_
   refine rt ?_
   obtain rfl := Option.some.inj h
   exact en rfl rfl
  ·refine sk ?_
   refine sq ?_
   refine rg pg ?_
   obtain ⟨r4, h5, h⟩ := bndB h
   refine callW0 (formula_within_ev h5) rfl ?_
   refine cd h rfl (fun h hb6 => ?_) (fun h hb6 => ?_)
   ·refine rg pg ?_
    refine rt ?_
    obtain rfl := Option.some.inj h
    exact en rfl rfl
   ·refine sk ?_
    refine sq ?_
    refine rg pg ?_
    obtain ⟨r7, h8, h⟩ := bndB h
    refine callW0 (tree_CountFormula_ev h8) rfl ?_
    refine cd h rfl (fun h hb9 => ?_) (fun h hb9 => ?_)
    ·refine rg pg ?_
     refine rt ?_
     obtain rfl := Option.some.inj h
     exact en rfl rfl
    ·refine sk ?_
     refine rg pg ?_
     obtain ⟨r10, h11, h⟩ := bndB h
     refine callW0 (tree_PutFormula_ev h11) rfl ?_
     refine rt ?_
     obtain rfl := Option.some.inj h
     exact en rfl rfl
theorem formula_Size_ev {f : Frm} {r : Int × Int} (h : formula_Size f = some r) : Ev Tryz.prog GL 53 [.agg ((dFm f).map V.d)] [] (.tup [.d (.int .i64 r.1), .d (.int .i64 r.2)]) [] := by
  refine evb pg Tryz.func53 rfl (by kernel_rfl) 8 [.tmp 2, .tmp 3] rfl rfl rfl (fun E ι0 => ?_)
  refine rg pg ?_
  refine rg pg ?_
  obtain ⟨r1, h2, h⟩ := bndB h
  refine callW0 (tree_CheckFormula_ev h2) rfl ?_
  refine rt ?_
  obtain rfl := Option.some.inj h
  exact en rfl rfl
theorem tree_CheckTerm_ev {t : Trm} {r : Int × Int} (h : tree_CheckTerm t = some r) : Ev Tryz.prog GL 116 [.agg ((dTm t).map V.d)] [] (.tup [.d (.int .i64 r.1), .d (.int .i64 r.2)]) [] := by
  refine evb pg Tryz.func116 rfl (by kernel_rfl) 18 [.tmp 2, .tmp 3] rfl rfl rfl (fun E ι0 => ?_)
  refine rg pg ?_
  refine rg pg ?_
  obtain ⟨r1, h2, h⟩ := bndB h
  refine callW0 (tree_termNodes_ev h2) rfl ?_
  refine sq ?_
  refine bk ?_
  refine rg pg ?_
  refine cd h rfl (fun h hb3 => ?_) (fun h hb3 => ?_)
  ·refine rg pg ?_
   refine rt ?_
   obtain rfl := Option.some.inj h
   exact en rfl rfl
  ·refine rg pg ?_
   refine cd h rfl (fun h hb4 => ?_) (fun h hb4 => ?_)
   ·refine rg pg ?_
    refine rt ?_
    obtain rfl := Option.some.inj h
    exact en rfl rfl
   ·refine sk ?_
    refine rg pg ?_
    refine rt ?_
    obtain rfl := Option.some.inj h
    exact en rfl rfl
theorem terms_Size_ev {t : Trm} {r : Int × Int} (h : terms_Size t = some r) : Ev Tryz.prog GL 112 [.agg ((dTm t).map V.d)] [] (.tup [.d (.int .i64 r.1), .d (.int .i64 r.2)]) [] := by
  refine evb pg Tryz.func112 rfl (by kernel_rfl) 8 [.tmp 2, .tmp 3] rfl rfl rfl (fun E ι0 => ?_)
  refine rg pg ?_
  refine rg pg ?_
  obtain ⟨r1, h2, h⟩ := bndB h
  refine callW0 (tree_CheckTerm_ev h2) rfl ?_
  refine rt ?_
  obtain rfl := Option.some.inj h
  exact en rfl rfl
theorem formula_Put_ev {f : Frm} {at_ : Int} {s : Trm} {r : Frm × Int} (h : formula_Put f at_ s = some r) : Ev Tryz.prog GL 46 [.agg ((dFm f).map V.d), .d (.int .i64 at_), .agg ((dTm s).map V.d)] [] (.tup [.agg ((dFm r.1).map V.d), .d (.int .i64 r.2)]) [] := by
  refine evb pg Tryz.func46 rfl (by kernel_rfl) 56 [.cell 6 45, .tmp 7] rfl rfl rfl (fun E ι0 => ?_)
  refine rg pg ?_
  refine rg pg ?_
  obtain ⟨r1, h2, h⟩ := bndB h
  refine callW0 (formula_Size_ev h2) rfl ?_
  refine sq ?_
  refine rg pg ?_
  refine cd h rfl (fun h hb3 => ?_) (fun h hb3 => ?_)
  ·refine rg pg ?_
   refine rt ?_
   obtain rfl := Option.some.inj h
   exact en rfl rfl
  ·refine sk ?_
   refine sq ?_
   refine rg pg ?_
   obtain ⟨r4, h5, h⟩ := bndB h
   refine callW0 (formula_within_ev h5) rfl ?_
   refine cd h rfl (fun h hb6 => ?_) (fun h hb6 => ?_)
   ·refine rg pg ?_
    refine rt ?_
    obtain rfl := Option.some.inj h
    exact en rfl rfl
   ·refine sk ?_
    refine rg pg ?_
    obtain ⟨r7, h8, h⟩ := bndB h
    refine callW0 (terms_Size_ev h8) rfl ?_
    refine sq ?_
    refine rg pg ?_
    refine cd h rfl (fun h hb9 => ?_) (fun h hb9 => ?_)
    ·refine rg pg ?_
     refine rt ?_
     obtain rfl := Option.some.inj h
     exact en rfl rfl
    ·refine sk ?_
     refine sq ?_
     refine rg pg ?_
     obtain ⟨r10, h11, h⟩ := bndB h
     refine callW0 (tree_NearFormula_ev h11) rfl ?_
     refine gwF h (fun h hb12 => ?_) (fun h hb12 => ?_)
     ·refine gf rfl ?_
      refine gf rfl ?_
      refine cdT rfl ?_
      refine rg pg ?_
      refine rt ?_
      obtain rfl := Option.some.inj h
      exact en rfl rfl
     ·refine gl rfl ?_
      obtain ⟨r13, h14, h⟩ := bndB h
      refine callW0 (tree_Near_ev h14) rfl ?_
      refine gl rfl ?_
      refine cd h rfl (fun h hb15 => ?_) (fun h hb15 => ?_)
      ·refine rg pg ?_
       refine rt ?_
       obtain rfl := Option.some.inj h
       exact en rfl rfl
      ·refine sk ?_
       refine sq ?_
       refine rg pg ?_
       obtain ⟨r16, h17, h⟩ := bndB h
       refine callW0 (tree_CountFormula_ev h17) rfl ?_
       refine cd h rfl (fun h hb18 => ?_) (fun h hb18 => ?_)
       ·refine rg pg ?_
        refine rt ?_
        obtain rfl := Option.some.inj h
        exact en rfl rfl
       ·refine sk ?_
        refine rg pg ?_
        obtain ⟨r19, h20, h⟩ := bndB h
        refine callW0 (tree_PutFormula_ev h20) rfl ?_
        refine rt ?_
        obtain rfl := Option.some.inj h
        exact en rfl rfl
end Go.AM

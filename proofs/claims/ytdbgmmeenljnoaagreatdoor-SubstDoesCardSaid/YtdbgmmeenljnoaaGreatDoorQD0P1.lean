/-
  The Go functions reckon what the printed ones do.
-/
import Derived.Test.YtdbgmmeenljnoaaGreatDoorQD0F
import Derived.Test.YtdbgmmeenljnoaaGreatDoorQD0T
import Derived.Test.YtdbgmmeenljnoaaGreatDoorQD0K
import Derived.Test.YtdbgmmeenljnoaaGreatDoorQD0S
set_option linter.unusedVariables false
set_option linter.unusedSimpArgs false
set_option maxRecDepth 20000
set_option maxHeartbeats 40000000
namespace Go.AM
open Go Go.RowKit Go.Proofs
theorem ref02_Var_ev {i : Int} {r : Trm} (h : ref02_Var i = some r) : Ev Tryz.prog GL 25 [.d (.int .i64 i)] [] (.agg ((dTm r).map V.d)) [] := by
  refine evb pg Tryz.func25 rfl (by kernel_rfl) 5 [.cell 2 28] rfl rfl rfl (fun E ι0 => ?_)
  refine rg pg ?_
  refine rg pg ?_
  refine rt ?_
  obtain rfl := Option.some.inj h
  exact en rfl rfl
theorem ref01_Copy_be (self : Typ → Option (Typ)) (hs : ∀ {t : Typ} {r : Typ}, self t = some r → Ev Tryz.prog GL 62 [.agg ((dTy t).map V.d)] [] (.agg ((dTy r).map V.d)) []) {t : Typ} {r : Typ} (h : ref01_Copy_b self t = some r) : Ev Tryz.prog GL 62 [.agg ((dTy t).map V.d)] [] (.agg ((dTy r).map V.d)) [] := by
  refine evb pg Tryz.func62 rfl (by kernel_rfl) 23 [.cell 2 25] rfl rfl rfl (fun E ι0 => ?_)
  refine rg pg ?_
  refine rg pg ?_
  refine sq ?_
  refine rg pg ?_
  refine LenW.mk (dTys_len _) ?_
  refine wrN 201 3 2 25 rfl rfl ?_
  refine rangeK (X := List Typ) pg t.args _ rfl (fun x5 => [(1, .ptr 1 0), (2, .ptr 2 0), (3, .own (dTys x5) 201), (7, .d (.slice (dTys t.args)))]) (fun x5 => [(1, some (.cells ((dTy t).map V.d) 25)), (2, some (.cells [.d (.int .i64 0), .d .nils] 25)), (201, some (.row (dTys x5).length 2 25))]) [1, 2, 201] h rfl rfl rfl rfl (fun _ => ⟨rfl, rfl⟩) 7 rfl (dTys_len _) (fun k2 i3 a1 x5 _ g4 h => ?_) (fun x5 h => ?_)
  ·refine rg pg ?_
   refine IdxW.mk (Int.natCast_nonneg _) (dTys_get g4) rfl ?_
   refine rl pg ?_
   obtain ⟨r18, h19, h⟩ := bndB h
   refine callW0 (hs h19) rfl ?_
   refine Ask.mk ⟨rfl, rfl⟩ (BsW.mk (dTys_map [r18]).symm (dTys_sz _) ?_)
   obtain ⟨p20, h⟩ := gdB h
   refine Ask.mk ⟨rfl, rfl, rfl⟩ (AppW.mk (dTys_app _ _) (dTys_sz _) (dTys_sz _) (by rw [dTys_len, dTys_len]; exact p20) ?_)
   exact jt (x5 ++ [r18]) h rfl rfl rfl
  ·refine rg pg ?_
   refine rt ?_
   obtain rfl := Option.some.inj h
   exact en rfl rfl
theorem ref01_Copy_me : ∀ (m : Nat) {t : Typ} {r : Typ}, ref01_Copy_m m t = some r → Ev Tryz.prog GL 62 [.agg ((dTy t).map V.d)] [] (.agg ((dTy r).map V.d)) []
  | 0, _, _, h => nomatch (show none = some _ from h)
  | m + 1, _, _, h => ref01_Copy_be (ref01_Copy_m m) (fun h => ref01_Copy_me m h) h
theorem ref01_Copy_ev {t : Typ} {r : Typ} (h : ref01_Copy t = some r) : Ev Tryz.prog GL 62 [.agg ((dTy t).map V.d)] [] (.agg ((dTy r).map V.d)) [] := ref01_Copy_me FU h
theorem ref02_Copy_be (self : Trm → Option (Trm)) (hs : ∀ {t : Trm} {r : Trm}, self t = some r → Ev Tryz.prog GL 53 [.agg ((dTm t).map V.d)] [] (.agg ((dTm r).map V.d)) []) {t : Trm} {r : Trm} (h : ref02_Copy_b self t = some r) : Ev Tryz.prog GL 53 [.agg ((dTm t).map V.d)] [] (.agg ((dTm r).map V.d)) [] := by
  refine evb pg Tryz.func53 rfl (by kernel_rfl) 28 [.cell 2 28] rfl rfl rfl (fun E ι0 => ?_)
  refine rg pg ?_
  refine rg pg ?_
  refine sq ?_
  refine rg pg ?_
  refine LenW.mk (dTms_len _) ?_
  refine wrN 201 3 5 28 rfl rfl ?_
  refine rangeK (X := List Trm) pg t.args _ rfl (fun x5 => [(1, .ptr 1 0), (2, .ptr 2 0), (3, .own (dTms x5) 201), (7, .d (.slice (dTms t.args)))]) (fun x5 => [(1, some (.cells ((dTm t).map V.d) 28)), (2, some (.cells [.d (.int .i64 0), .d (.int .i64 0), .d (.int .i64 0), .d .nils, .d .nils] 28)), (201, some (.row (dTms x5).length 5 28))]) [1, 2, 201] h rfl rfl rfl rfl (fun _ => ⟨rfl, rfl⟩) 7 rfl (dTms_len _) (fun k2 i3 a1 x5 _ g4 h => ?_) (fun x5 h => ?_)
  ·refine rg pg ?_
   refine IdxW.mk (Int.natCast_nonneg _) (dTms_get g4) rfl ?_
   refine rl pg ?_
   obtain ⟨r18, h19, h⟩ := bndB h
   refine callW0 (hs h19) rfl ?_
   refine Ask.mk ⟨rfl, rfl⟩ (BsW.mk (dTms_map [r18]).symm (dTms_sz _) ?_)
   obtain ⟨p20, h⟩ := gdB h
   refine Ask.mk ⟨rfl, rfl, rfl⟩ (AppW.mk (dTms_app _ _) (dTms_sz _) (dTms_sz _) (by rw [dTms_len, dTms_len]; exact p20) ?_)
   exact jt (x5 ++ [r18]) h rfl rfl rfl
  ·refine rgd pg ?_
   obtain ⟨r23, h24, h⟩ := bndB h
   refine callW0 (ref01_Copy_ev h24) rfl ?_
   refine Ask.mk (by kernel_rfl) ?_
   refine rt ?_
   obtain rfl := Option.some.inj h
   exact en rfl rfl
theorem ref02_Copy_me : ∀ (m : Nat) {t : Trm} {r : Trm}, ref02_Copy_m m t = some r → Ev Tryz.prog GL 53 [.agg ((dTm t).map V.d)] [] (.agg ((dTm r).map V.d)) []
  | 0, _, _, h => nomatch (show none = some _ from h)
  | m + 1, _, _, h => ref02_Copy_be (ref02_Copy_m m) (fun h => ref02_Copy_me m h) h
theorem ref02_Copy_ev {t : Trm} {r : Trm} (h : ref02_Copy t = some r) : Ev Tryz.prog GL 53 [.agg ((dTm t).map V.d)] [] (.agg ((dTm r).map V.d)) [] := ref02_Copy_me FU h
theorem ref02_N_ev {kind : Int} {l : List Trm} {r : Trm} (h : ref02_N kind l = some r) : Ev Tryz.prog GL 24 [.d (.int .i64 kind), .d (.slice (dTms l))] [] (.agg ((dTm r).map V.d)) [] := by
  refine evb pg Tryz.func24 rfl (by kernel_rfl) 23 [.cell 4 28] rfl rfl rfl (fun E ι0 => ?_)
  refine rg pg ?_
  refine rg pg ?_
  refine sq ?_
  refine rg pg ?_
  refine LenW.mk (dTms_len _) ?_
  refine wrN 201 5 5 28 rfl rfl ?_
  refine rangeK (X := List Trm) pg l _ rfl (fun x5 => [(0, .d (.int .i64 kind)), (4, .ptr 4 0), (5, .own (dTms x5) 201), (8, .d (.slice (dTms l)))]) (fun x5 => [(4, some (.cells [.d (.int .i64 0), .d (.int .i64 0), .d (.int .i64 0), .d .nils, .d .nils] 28)), (201, some (.row (dTms x5).length 5 28))]) [4, 201] h rfl rfl rfl rfl (fun _ => ⟨rfl, rfl⟩) 1 rfl (dTms_len _) (fun k2 i3 a1 x5 _ g4 h => ?_) (fun x5 h => ?_)
  ·refine rg pg ?_
   refine IdxW.mk (Int.natCast_nonneg _) (dTms_get g4) rfl ?_
   refine rl pg ?_
   obtain ⟨r18, h19, h⟩ := bndB h
   refine callW0 (ref02_Copy_ev h19) rfl ?_
   refine Ask.mk ⟨rfl, rfl⟩ (BsW.mk (dTms_map [r18]).symm (dTms_sz _) ?_)
   obtain ⟨p20, h⟩ := gdB h
   refine Ask.mk ⟨rfl, rfl, rfl⟩ (AppW.mk (dTms_app _ _) (dTms_sz _) (dTms_sz _) (by rw [dTms_len, dTms_len]; exact p20) ?_)
   exact jt (x5 ++ [r18]) h rfl rfl rfl
  ·refine rg pg ?_
   refine rt ?_
   obtain rfl := Option.some.inj h
   exact en rfl rfl
theorem tree_Arity_ev {kind : Int} {r : Int × Bool} (h : tree_Arity kind = some r) : Ev Tryz.prog GL 92 [.d (.int .i64 kind)] [] (.tup [.d (.int .i64 r.1), .d (.bool r.2)]) [] := by
  refine evb pg Tryz.func92 rfl (by kernel_rfl) 13 [.tmp 2, .tmp 3] rfl rfl rfl (fun E ι0 => ?_)
  refine rg pg ?_
  refine sq ?_
  refine rg pg ?_
  refine gwF h (fun h hb1 => ?_) (fun h hb1 => ?_)
  ·refine gf rfl ?_
   refine cdT rfl ?_
   refine rg pg ?_
   refine rt ?_
   obtain rfl := Option.some.inj h
   exact en rfl rfl
  ·refine gl rfl ?_
   refine cd h rfl (fun h hb2 => ?_) (fun h hb2 => ?_)
   ·refine rg pg ?_
    refine rt ?_
    obtain rfl := Option.some.inj h
    exact en rfl rfl
   ·refine sk ?_
    refine rg pg ?_
    obtain ⟨a3, p4, g5, h⟩ := idxB h
    refine ArrW.mk p4 (arI_get p4 g5).1 (arI_get p4 g5).2 rfl ?_
    refine rt ?_
    obtain rfl := Option.some.inj h
    exact en rfl rfl
theorem tree_Typed_ev {kind : Int} {r : Bool} (h : tree_Typed kind = some r) : Ev Tryz.prog GL 93 [.d (.int .i64 kind)] [] (.d (.bool r)) [] := by
  refine evb pg Tryz.func93 rfl (by kernel_rfl) 13 [.tmp 2] rfl rfl rfl (fun E ι0 => ?_)
  refine rg pg ?_
  refine rg pg ?_
  refine gwF h (fun h hb1 => ?_) (fun h hb1 => ?_)
  ·refine gf rfl ?_
   refine gf rfl ?_
   refine gf rfl ?_
   refine rt ?_
   obtain rfl := Option.some.inj h
   exact en rfl rfl
  ·refine gl rfl ?_
   refine gwF h (fun h hb2 => ?_) (fun h hb2 => ?_)
   ·refine gf rfl ?_
    refine rt ?_
    obtain rfl := Option.some.inj h
    exact en rfl rfl
   ·refine gl rfl ?_
    refine rt ?_
    obtain rfl := Option.some.inj h
    exact en rfl rfl
theorem tree_typeNodes_be (self : Typ → Option (Int × Bool)) (hs : ∀ {t : Typ} {r : Int × Bool}, self t = some r → Ev Tryz.prog GL 109 [.agg ((dTy t).map V.d)] [] (.tup [.d (.int .i64 r.1), .d (.bool r.2)]) []) {t : Typ} {r : Int × Bool} (h : tree_typeNodes_b self t = some r) : Ev Tryz.prog GL 109 [.agg ((dTy t).map V.d)] [] (.tup [.d (.int .i64 r.1), .d (.bool r.2)]) [] := by
  refine evb pg Tryz.func109 rfl (by kernel_rfl) 43 [.tmp 2, .tmp 3] rfl rfl rfl (fun E ι0 => ?_)
  refine rg pg ?_
  refine rg pg ?_
  refine join (fun x11 : Int => ⟨[(1, .ptr 1 0), (4, .d (.int .i64 x11))], [(1, some (.cells ((dTy t).map V.d) 25))], [1]⟩) (fun x11 => tree_typeNodes_k3 self t x11) r ?_ (fun x11 h => ?_)
  ·refine rg pg ?_
   refine bk ?_
   refine join (fun x4 : Bool => ⟨[(1, .ptr 1 0), (4, .d (.int .i64 0)), (11, .d (.int .i64 t.kind)), (12, .d (.bool x4))], [(1, some (.cells ((dTy t).map V.d) 25))], [1]⟩) (fun x4 => tree_typeNodes_k1 self t x4) r ?_ (fun x4 h => ?_)
   ·refine rg pg ?_
    refine cd h rfl (fun h hb1 => ?_) (fun h hb1 => ?_)
    ·refine sk ?_
     exact jt true h rfl rfl rfl
    ·refine rg pg ?_
     refine cd h rfl (fun h hb2 => ?_) (fun h hb2 => ?_)
     ·refine sk ?_
      exact jt true h rfl rfl rfl
     ·refine rl pg ?_
      exact jt (t.kind == 5) h rfl rfl rfl
   ·refine cd h rfl (fun h hb5 => ?_) (fun h hb5 => ?_)
    ·refine sk ?_
     exact jt 0 h rfl rfl rfl
    ·refine join (fun x8 : Bool => ⟨[(1, .ptr 1 0), (16, .d (.bool x8))], [(1, some (.cells ((dTy t).map V.d) 25))], [1]⟩) (fun x8 => tree_typeNodes_k2 self t x8) r ?_ (fun x8 h => ?_)
     ·refine rg pg ?_
      refine cd h rfl (fun h hb6 => ?_) (fun h hb6 => ?_)
      ·refine sk ?_
       exact jt true h rfl rfl rfl
      ·refine rl pg ?_
       exact jt (t.kind == 4) h rfl rfl rfl
     ·refine cd h rfl (fun h hb9 => ?_) (fun h hb9 => ?_)
      ·refine rl pg ?_
       exact jt 2 h rfl rfl rfl
      ·refine rg pg ?_
       refine rt ?_
       obtain rfl := Option.some.inj h
       exact en rfl rfl
  ·refine sq ?_
   refine rg pg ?_
   refine LenW.mk (dTys_len _) ?_
   refine cd h rfl (fun h hb12 => ?_) (fun h hb12 => ?_)
   ·refine rg pg ?_
    refine rt ?_
    obtain rfl := Option.some.inj h
    exact en rfl rfl
   ·refine sk ?_
    refine rg pg ?_
    refine sq ?_
    refine rg pg ?_
    refine LenW.mk (dTys_len _) ?_
    refine rangeK (X := Int) pg t.args _ rfl (fun x17 => [(5, .d (.int .i64 x17)), (25, .d (.slice (dTys t.args)))]) (fun x17 => []) [] h rfl rfl rfl rfl (fun _ => ⟨rfl, rfl⟩) 20 rfl (dTys_len _) (fun k14 i15 a13 x17 _ g16 h => ?_) (fun x17 h => ?_)
    ·refine rg pg ?_
     refine IdxW.mk (Int.natCast_nonneg _) (dTys_get g16) rfl ?_
     refine rg pg ?_
     obtain ⟨r27, h28, h⟩ := bndB h
     refine callW0 (hs h28) rfl ?_
     refine sq ?_
     refine rg pg ?_
     refine cd h rfl (fun h hb29 => ?_) (fun h hb29 => ?_)
     ·refine rg pg ?_
      refine rt ?_
      obtain rfl := Option.some.inj h
      exact en rfl rfl
     ·refine sk ?_
      refine rl pg ?_
      exact jt (w64 (x17 + r27.1)) h rfl rfl rfl
    ·refine rg pg ?_
     refine rt ?_
     obtain rfl := Option.some.inj h
     exact en rfl rfl
theorem tree_typeNodes_me : ∀ (m : Nat) {t : Typ} {r : Int × Bool}, tree_typeNodes_m m t = some r → Ev Tryz.prog GL 109 [.agg ((dTy t).map V.d)] [] (.tup [.d (.int .i64 r.1), .d (.bool r.2)]) []
  | 0, _, _, h => nomatch (show none = some _ from h)
  | m + 1, _, _, h => tree_typeNodes_be (tree_typeNodes_m m) (fun h => tree_typeNodes_me m h) h
theorem tree_typeNodes_ev {t : Typ} {r : Int × Bool} (h : tree_typeNodes t = some r) : Ev Tryz.prog GL 109 [.agg ((dTy t).map V.d)] [] (.tup [.d (.int .i64 r.1), .d (.bool r.2)]) [] := tree_typeNodes_me FU h
theorem tree_CheckType_ev {t : Typ} {r : Int × Int} (h : tree_CheckType t = some r) : Ev Tryz.prog GL 94 [.agg ((dTy t).map V.d)] [] (.tup [.d (.int .i64 r.1), .d (.int .i64 r.2)]) [] := by
  refine evb pg Tryz.func94 rfl (by kernel_rfl) 18 [.tmp 2, .tmp 3] rfl rfl rfl (fun E ι0 => ?_)
  refine rg pg ?_
  refine rg pg ?_
  obtain ⟨r1, h2, h⟩ := bndB h
  refine callW0 (tree_typeNodes_ev h2) rfl ?_
  refine sq ?_
  refine bk ?_
  refine rg pg ?_
  refine cd h rfl (fun h hb3 => ?_) (fun h hb3 => ?_)
  ·refine rg pg ?_
   refine rt ?_
   obtain rfl := Option.some.inj h
   exact en rfl rfl
  ·refine rg pg ?_
   refine cd h rfl (fun h hb4 => ?_) (fun h hb4 => ?_)
   ·refine rg pg ?_
    refine rt ?_
    obtain rfl := Option.some.inj h
    exact en rfl rfl
   ·refine sk ?_
    refine rg pg ?_
    refine rt ?_
    obtain rfl := Option.some.inj h
    exact en rfl rfl
theorem tree_NoType_ev {t : Typ} {r : Bool} (h : tree_NoType t = some r) : Ev Tryz.prog GL 95 [.agg ((dTy t).map V.d)] [] (.d (.bool r)) [] := by
  refine evb pg Tryz.func95 rfl (by kernel_rfl) 12 [.tmp 2] rfl rfl rfl (fun E ι0 => ?_)
  refine rg pg ?_
  refine rg pg ?_
  refine gwT h (fun h hb1 => ?_) (fun h hb1 => ?_)
  ·refine gl rfl ?_
   refine gl rfl ?_
   refine LenW.mk (dTys_len _) ?_
   refine gl rfl ?_
   refine rt ?_
   obtain rfl := Option.some.inj h
   exact en rfl rfl
  ·refine gf rfl ?_
   refine gf rfl ?_
   refine gf rfl ?_
   refine rt ?_
   obtain rfl := Option.some.inj h
   exact en rfl rfl
theorem tree_termNodes_be (self : Trm → Option (Int × Bool)) (hs : ∀ {t : Trm} {r : Int × Bool}, self t = some r → Ev Tryz.prog GL 83 [.agg ((dTm t).map V.d)] [] (.tup [.d (.int .i64 r.1), .d (.bool r.2)]) []) {t : Trm} {r : Int × Bool} (h : tree_termNodes_b self t = some r) : Ev Tryz.prog GL 83 [.agg ((dTm t).map V.d)] [] (.tup [.d (.int .i64 r.1), .d (.bool r.2)]) [] := by
  refine evb pg Tryz.func83 rfl (by kernel_rfl) 77 [.tmp 2, .tmp 3] rfl rfl rfl (fun E ι0 => ?_)
  refine rg pg ?_
  refine rg pg ?_
  obtain ⟨r1, h2, h⟩ := bndB h
  refine callW0 (tree_Arity_ev h2) rfl ?_
  refine join (fun x8 : Unit => ⟨[(1, .ptr 1 0)], [(1, some (.cells ((dTm t).map V.d) 28))], [1]⟩) (fun x8 => tree_termNodes_k1 self t x8) r ?_ (fun x8 h => ?_)
  ·refine rg pg ?_
   refine gwF h (fun h hb3 => ?_) (fun h hb3 => ?_)
   ·refine gf rfl ?_
    refine gf rfl ?_
    refine gf rfl ?_
    refine gf rfl ?_
    refine gf rfl ?_
    refine gf rfl ?_
    refine gf rfl ?_
    refine gf rfl ?_
    refine gf rfl ?_
    refine gf rfl ?_
    refine gf rfl ?_
    refine gf rfl ?_
    refine cdT rfl ?_
    refine rg pg ?_
    refine rt ?_
    obtain rfl := Option.some.inj h
    exact en rfl rfl
   ·refine gl rfl ?_
    refine gl rfl ?_
    refine LenW.mk (dTms_len _) ?_
    refine gl rfl ?_
    refine gl rfl ?_
    refine gwF h (fun h hb4 => ?_) (fun h hb4 => ?_)
    ·refine gf rfl ?_
     refine gf rfl ?_
     refine gf rfl ?_
     refine gf rfl ?_
     refine gf rfl ?_
     refine gf rfl ?_
     refine gf rfl ?_
     refine cdT rfl ?_
     refine rg pg ?_
     refine rt ?_
     obtain rfl := Option.some.inj h
     exact en rfl rfl
    ·refine gl rfl ?_
     refine gl rfl ?_
     refine gwF h (fun h hb5 => ?_) (fun h hb5 => ?_)
     ·refine gf rfl ?_
      refine gf rfl ?_
      refine gf rfl ?_
      refine gf rfl ?_
      refine cdT rfl ?_
      refine rg pg ?_
      refine rt ?_
      obtain rfl := Option.some.inj h
      exact en rfl rfl
     ·refine gl rfl ?_
      refine gl rfl ?_
      refine gl rfl ?_
      refine gwT h (fun h hb6 => ?_) (fun h hb6 => ?_)
      ·refine gl rfl ?_
       refine gl rfl ?_
       refine gl rfl ?_
       refine cd h rfl (fun h hb7 => ?_) (fun h hb7 => ?_)
       ·refine rg pg ?_
        refine rt ?_
        obtain rfl := Option.some.inj h
        exact en rfl rfl
       ·refine sk ?_
        exact jt () h rfl rfl rfl
      ·refine gf rfl ?_
       refine gf rfl ?_
       refine gl rfl ?_
       refine cdF rfl ?_
       refine sk ?_
       exact jt () h rfl rfl rfl
  ·refine join (fun x18 : Unit => ⟨[(1, .ptr 1 0)], [(1, some (.cells ((dTm t).map V.d) 28))], [1]⟩) (fun x18 => tree_termNodes_k2 self t x18) r ?_ (fun x18 h => ?_)
   ·refine rg pg ?_
    obtain ⟨r9, h10, h⟩ := bndB h
    refine callW0 (tree_Typed_ev h10) rfl ?_
    refine cd h rfl (fun h hb11 => ?_) (fun h hb11 => ?_)
    ·refine rg pg ?_
     obtain ⟨r12, h13, h⟩ := bndB h
     refine callW0 (tree_CheckType_ev h13) rfl ?_
     refine rg pg ?_
     refine cd h rfl (fun h hb14 => ?_) (fun h hb14 => ?_)
     ·refine rg pg ?_
      refine rt ?_
      obtain rfl := Option.some.inj h
      exact en rfl rfl
     ·refine sk ?_
      exact jt () h rfl rfl rfl
    ·refine rg pg ?_
     obtain ⟨r15, h16, h⟩ := bndB h
     refine callW0 (tree_NoType_ev h16) rfl ?_
     refine cd h rfl (fun h hb17 => ?_) (fun h hb17 => ?_)
     ·refine rg pg ?_
      refine rt ?_
      obtain rfl := Option.some.inj h
      exact en rfl rfl
     ·refine sk ?_
      exact jt () h rfl rfl rfl
   ·refine rg pg ?_
    refine sq ?_
    refine rg pg ?_
    refine LenW.mk (dTms_len _) ?_
    refine rangeK (X := Int) pg t.args _ rfl (fun x23 => [(8, .d (.int .i64 x23)), (59, .d (.slice (dTms t.args)))]) (fun x23 => []) [] h rfl rfl rfl rfl (fun _ => ⟨rfl, rfl⟩) 59 rfl (dTms_len _) (fun k20 i21 a19 x23 _ g22 h => ?_) (fun x23 h => ?_)
    ·refine rg pg ?_
     refine IdxW.mk (Int.natCast_nonneg _) (dTms_get g22) rfl ?_
     refine rg pg ?_
     obtain ⟨r33, h34, h⟩ := bndB h
     refine callW0 (hs h34) rfl ?_
     refine sq ?_
     refine rg pg ?_
     refine cd h rfl (fun h hb35 => ?_) (fun h hb35 => ?_)
     ·refine rg pg ?_
      refine rt ?_
      obtain rfl := Option.some.inj h
      exact en rfl rfl
     ·refine sk ?_
      refine rl pg ?_
      exact jt (w64 (x23 + r33.1)) h rfl rfl rfl
    ·refine rg pg ?_
     refine rt ?_
     obtain rfl := Option.some.inj h
     exact en rfl rfl
theorem tree_termNodes_me : ∀ (m : Nat) {t : Trm} {r : Int × Bool}, tree_termNodes_m m t = some r → Ev Tryz.prog GL 83 [.agg ((dTm t).map V.d)] [] (.tup [.d (.int .i64 r.1), .d (.bool r.2)]) []
  | 0, _, _, h => nomatch (show none = some _ from h)
  | m + 1, _, _, h => tree_termNodes_be (tree_termNodes_m m) (fun h => tree_termNodes_me m h) h
theorem tree_termNodes_ev {t : Trm} {r : Int × Bool} (h : tree_termNodes t = some r) : Ev Tryz.prog GL 83 [.agg ((dTm t).map V.d)] [] (.tup [.d (.int .i64 r.1), .d (.bool r.2)]) [] := tree_termNodes_me FU h
theorem tree_CheckTerm_ev {t : Trm} {r : Int × Int} (h : tree_CheckTerm t = some r) : Ev Tryz.prog GL 68 [.agg ((dTm t).map V.d)] [] (.tup [.d (.int .i64 r.1), .d (.int .i64 r.2)]) [] := by
  refine evb pg Tryz.func68 rfl (by kernel_rfl) 18 [.tmp 2, .tmp 3] rfl rfl rfl (fun E ι0 => ?_)
  refine rg pg ?_
  refine rg pg ?_
  obtain ⟨r1, h2, h⟩ := bndB h
  refine callW0 (tree_termNodes_ev h2) rfl ?_
  refine sq ?_
  refine bk ?_
  refine rg pg ?_
  refine cd h rfl (fun h hb3 => ?_) (fun h hb3 => ?_)
  ·refine rg pg ?_
   refine rt ?_
   obtain rfl := Option.some.inj h
   exact en rfl rfl
  ·refine rg pg ?_
   refine cd h rfl (fun h hb4 => ?_) (fun h hb4 => ?_)
   ·refine rg pg ?_
    refine rt ?_
    obtain rfl := Option.some.inj h
    exact en rfl rfl
   ·refine sk ?_
    refine rg pg ?_
    refine rt ?_
    obtain rfl := Option.some.inj h
    exact en rfl rfl
theorem terms_Size_ev {t : Trm} {r : Int × Int} (h : terms_Size t = some r) : Ev Tryz.prog GL 58 [.agg ((dTm t).map V.d)] [] (.tup [.d (.int .i64 r.1), .d (.int .i64 r.2)]) [] := by
  refine evb pg Tryz.func58 rfl (by kernel_rfl) 8 [.tmp 2, .tmp 3] rfl rfl rfl (fun E ι0 => ?_)
  refine rg pg ?_
  refine rg pg ?_
  obtain ⟨r1, h2, h⟩ := bndB h
  refine callW0 (tree_CheckTerm_ev h2) rfl ?_
  refine rt ?_
  obtain rfl := Option.some.inj h
  exact en rfl rfl
theorem subst_within_ev {n : Int} {r : Bool} (h : subst_within n = some r) : Ev Tryz.prog GL 49 [.d (.int .i64 n)] [] (.d (.bool r)) [] := by
  refine evb pg Tryz.func49 rfl (by kernel_rfl) 9 [.tmp 2] rfl rfl rfl (fun E ι0 => ?_)
  refine rg pg ?_
  refine rg pg ?_
  refine gwT h (fun h hb1 => ?_) (fun h hb1 => ?_)
  ·refine gl rfl ?_
   refine rt ?_
   obtain rfl := Option.some.inj h
   exact en rfl rfl
  ·refine gf rfl ?_
   refine rt ?_
   obtain rfl := Option.some.inj h
   exact en rfl rfl
theorem tree_Near_1_604_ev {index : Int} {__ : Int} {o0 : Bool} {r : Bool} (h : tree_Near_1_604 index __ o0 = some r) : Ev Tryz.prog GL 75 [.d (.int .i64 index), .d (.int .i64 __), .ptr 1000 0] [(1000, .cells [.d (.bool o0)] 4)] (.tup []) [(1000, .cells [.d (.bool r)] 4)] := by
  refine evb pg Tryz.func75 rfl (by kernel_rfl) 10 [] rfl rfl rfl (fun E ι0 => ?_)
  refine rl pg ?_
  refine gwT h (fun h hb1 => ?_) (fun h hb1 => ?_)
  ·refine gl rfl ?_
   obtain rfl := Option.some.inj h
   exact enN rfl rfl
  ·refine gf rfl ?_
   obtain rfl := Option.some.inj h
   exact enN rfl rfl
theorem tree_Each_1_d04_be (self : Trm → Int → Bool → Option (Bool)) (hs : ∀ {t : Trm} {below : Int} {o2 : Bool} {r : Bool}, self t below o2 = some r → Ev Tryz.prog GL 69 [.agg ((dTm t).map V.d), .d (.int .i64 below), .ptr 1000 0, .ptr 1001 0] [(1000, .cells [.clo 75 [.ptr 1002 0]] 69), (1001, .cells [.clo 69 [.ptr 1000 0, .ptr 1001 0]] 89), (1002, .cells [.d (.bool o2)] 4)] (.tup []) [(1000, .cells [.clo 75 [.ptr 1002 0]] 69), (1001, .cells [.clo 69 [.ptr 1000 0, .ptr 1001 0]] 89), (1002, .cells [.d (.bool r)] 4)]) {t : Trm} {below : Int} {o2 : Bool} {r : Bool} (h : tree_Each_1_d04_b self t below o2 = some r) : Ev Tryz.prog GL 69 [.agg ((dTm t).map V.d), .d (.int .i64 below), .ptr 1000 0, .ptr 1001 0] [(1000, .cells [.clo 75 [.ptr 1002 0]] 69), (1001, .cells [.clo 69 [.ptr 1000 0, .ptr 1001 0]] 89), (1002, .cells [.d (.bool o2)] 4)] (.tup []) [(1000, .cells [.clo 75 [.ptr 1002 0]] 69), (1001, .cells [.clo 69 [.ptr 1000 0, .ptr 1001 0]] 89), (1002, .cells [.d (.bool r)] 4)] := by
  refine evb pg Tryz.func69 rfl (by kernel_rfl) 33 [] rfl rfl rfl (fun E ι0 => ?_)
  refine rg pg ?_
  refine join (fun x5 : Bool => ⟨[(1, .d (.int .i64 below)), (3, .ptr 1001 0), (4, .ptr 4 0)], [(1001, some (.cells [.clo 69 [.ptr 1000 0, .ptr 1001 0]] 89)), (4, some (.cells ((dTm t).map V.d) 28)), (1000, some (.cells [.clo 75 [.ptr 1002 0]] 69)), (1002, some (.cells [.d (.bool x5)] 4))], [1001, 4, 1000, 1002]⟩) (fun x5 => tree_Each_1_d04_k1 self t below x5) r ?_ (fun x5 h => ?_)
  ·refine rg pg ?_
   refine cd h rfl (fun h hb1 => ?_) (fun h hb1 => ?_)
   ·refine rl pg ?_
    obtain ⟨r2, h3, h⟩ := bndB h
    refine callW [(1000, 1002)] (tree_Near_1_604_ev h3) rfl rfl rfl rfl rfl ?_
    exact jt r2 h rfl rfl rfl
   ·refine sk ?_
    exact jt o2 h rfl rfl rfl
  ·refine join (fun x8 : Int => ⟨[(1, .d (.int .i64 x8)), (3, .ptr 1001 0), (4, .ptr 4 0)], [(1001, some (.cells [.clo 69 [.ptr 1000 0, .ptr 1001 0]] 89)), (4, some (.cells ((dTm t).map V.d) 28)), (1000, some (.cells [.clo 75 [.ptr 1002 0]] 69)), (1002, some (.cells [.d (.bool x5)] 4))], [1001, 4, 1000, 1002]⟩) (fun x8 => tree_Each_1_d04_k2 self t x5 x8) r ?_ (fun x8 h => ?_)
   ·refine rg pg ?_
    refine cd h rfl (fun h hb6 => ?_) (fun h hb6 => ?_)
    ·refine rl pg ?_
     exact jt (w64 (below + 1)) h rfl rfl rfl
    ·refine sk ?_
     exact jt below h rfl rfl rfl
   ·refine rg pg ?_
    refine LenW.mk (dTms_len _) ?_
    refine rangeK (X := Bool) pg t.args _ rfl (fun x13 => [(1, .d (.int .i64 x8)), (3, .ptr 1001 0), (22, .d (.slice (dTms t.args)))]) (fun x13 => [(1001, some (.cells [.clo 69 [.ptr 1000 0, .ptr 1001 0]] 89)), (1000, some (.cells [.clo 75 [.ptr 1002 0]] 69)), (1002, some (.cells [.d (.bool x13)] 4))]) [1001, 1000, 1002] h rfl rfl rfl rfl (fun _ => ⟨rfl, rfl⟩) 22 rfl (dTms_len _) (fun k10 i11 a9 x13 _ g12 h => ?_) (fun x13 h => ?_)
    ·refine rg pg ?_
     refine IdxW.mk (Int.natCast_nonneg _) (dTms_get g12) rfl ?_
     refine rl pg ?_
     obtain ⟨r21, h22, h⟩ := bndB h
     refine callW [(1000, 1000), (1001, 1001), (1002, 1002)] (hs h22) rfl rfl rfl rfl rfl ?_
     exact jt r21 h rfl rfl rfl
    ·obtain rfl := Option.some.inj h
     exact enN rfl rfl
theorem tree_Each_1_d04_me : ∀ (m : Nat) {t : Trm} {below : Int} {o2 : Bool} {r : Bool}, tree_Each_1_d04_m m t below o2 = some r → Ev Tryz.prog GL 69 [.agg ((dTm t).map V.d), .d (.int .i64 below), .ptr 1000 0, .ptr 1001 0] [(1000, .cells [.clo 75 [.ptr 1002 0]] 69), (1001, .cells [.clo 69 [.ptr 1000 0, .ptr 1001 0]] 89), (1002, .cells [.d (.bool o2)] 4)] (.tup []) [(1000, .cells [.clo 75 [.ptr 1002 0]] 69), (1001, .cells [.clo 69 [.ptr 1000 0, .ptr 1001 0]] 89), (1002, .cells [.d (.bool r)] 4)]
  | 0, _, _, _, _, h => nomatch (show none = some _ from h)
  | m + 1, _, _, _, _, h => tree_Each_1_d04_be (tree_Each_1_d04_m m) (fun h => tree_Each_1_d04_me m h) h
theorem tree_Each_1_d04_ev {t : Trm} {below : Int} {o2 : Bool} {r : Bool} (h : tree_Each_1_d04 t below o2 = some r) : Ev Tryz.prog GL 69 [.agg ((dTm t).map V.d), .d (.int .i64 below), .ptr 1000 0, .ptr 1001 0] [(1000, .cells [.clo 75 [.ptr 1002 0]] 69), (1001, .cells [.clo 69 [.ptr 1000 0, .ptr 1001 0]] 89), (1002, .cells [.d (.bool o2)] 4)] (.tup []) [(1000, .cells [.clo 75 [.ptr 1002 0]] 69), (1001, .cells [.clo 69 [.ptr 1000 0, .ptr 1001 0]] 89), (1002, .cells [.d (.bool r)] 4)] := tree_Each_1_d04_me FU h
theorem tree_Each_322_ev {t : Trm} {o0 : Bool} {r : Bool} (h : tree_Each_322 t o0 = some r) : Ev Tryz.prog GL 42 [.agg ((dTm t).map V.d), .clo 75 [.ptr 1000 0]] [(1000, .cells [.d (.bool o0)] 4)] (.tup []) [(1000, .cells [.d (.bool r)] 4)] := by
  refine evb pg Tryz.func42 rfl (by kernel_rfl) 9 [] rfl rfl rfl (fun E ι0 => ?_)
  refine rg pg ?_
  refine rg pg ?_
  refine rg pg ?_
  refine rl pg ?_
  obtain ⟨r1, h2, h⟩ := bndB h
  refine callW [(1000, 3), (1001, 4), (1002, 1000)] (tree_Each_1_d04_ev h2) rfl rfl rfl rfl rfl ?_
  obtain rfl := Option.some.inj h
  exact enN rfl rfl
theorem tree_Near_ev {t : Trm} {r : Bool} (h : tree_Near t = some r) : Ev Tryz.prog GL 50 [.agg ((dTm t).map V.d)] [] (.d (.bool r)) [] := by
  refine evb pg Tryz.func50 rfl (by kernel_rfl) 8 [.tmp 2] rfl rfl rfl (fun E ι0 => ?_)
  refine rg pg ?_
  refine rg pg ?_
  refine rg pg ?_
  obtain ⟨r1, h2, h⟩ := bndB h
  refine callW [(1000, 3)] (tree_Each_322_ev h2) rfl rfl rfl rfl rfl ?_
  refine rg pg ?_
  refine rt ?_
  obtain rfl := Option.some.inj h
  exact en rfl rfl
theorem tree_Count_1_9d7_ev {index : Int} {below : Int} {o0 : Int} {o1 : Int} {r : Int} (h : tree_Count_1_9d7 index below o0 o1 = some r) : Ev Tryz.prog GL 79 [.d (.int .i64 index), .d (.int .i64 below), .ptr 1000 0, .ptr 1001 0] [(1000, .cells [.d (.int .i64 o0)] 3), (1001, .cells [.d (.int .i64 o1)] 3)] (.tup []) [(1000, .cells [.d (.int .i64 o0)] 3), (1001, .cells [.d (.int .i64 r)] 3)] := by
  refine evb pg Tryz.func79 rfl (by kernel_rfl) 13 [] rfl rfl rfl (fun E ι0 => ?_)
  refine rg pg ?_
  refine cd h rfl (fun h hb1 => ?_) (fun h hb1 => ?_)
  ·refine rl pg ?_
   obtain rfl := Option.some.inj h
   exact enN rfl rfl
  ·refine sk ?_
   obtain rfl := Option.some.inj h
   exact enN rfl rfl
theorem tree_Each_1_436_be (self : Trm → Int → Int → Int → Option (Int)) (hs : ∀ {t : Trm} {below : Int} {o2 : Int} {o3 : Int} {r : Int}, self t below o2 o3 = some r → Ev Tryz.prog GL 69 [.agg ((dTm t).map V.d), .d (.int .i64 below), .ptr 1000 0, .ptr 1001 0] [(1000, .cells [.clo 79 [.ptr 1002 0, .ptr 1003 0]] 69), (1001, .cells [.clo 69 [.ptr 1000 0, .ptr 1001 0]] 89), (1002, .cells [.d (.int .i64 o2)] 3), (1003, .cells [.d (.int .i64 o3)] 3)] (.tup []) [(1000, .cells [.clo 79 [.ptr 1002 0, .ptr 1003 0]] 69), (1001, .cells [.clo 69 [.ptr 1000 0, .ptr 1001 0]] 89), (1002, .cells [.d (.int .i64 o2)] 3), (1003, .cells [.d (.int .i64 r)] 3)]) {t : Trm} {below : Int} {o2 : Int} {o3 : Int} {r : Int} (h : tree_Each_1_436_b self t below o2 o3 = some r) : Ev Tryz.prog GL 69 [.agg ((dTm t).map V.d), .d (.int .i64 below), .ptr 1000 0, .ptr 1001 0] [(1000, .cells [.clo 79 [.ptr 1002 0, .ptr 1003 0]] 69), (1001, .cells [.clo 69 [.ptr 1000 0, .ptr 1001 0]] 89), (1002, .cells [.d (.int .i64 o2)] 3), (1003, .cells [.d (.int .i64 o3)] 3)] (.tup []) [(1000, .cells [.clo 79 [.ptr 1002 0, .ptr 1003 0]] 69), (1001, .cells [.clo 69 [.ptr 1000 0, .ptr 1001 0]] 89), (1002, .cells [.d (.int .i64 o2)] 3), (1003, .cells [.d (.int .i64 r)] 3)] := by
  refine evb pg Tryz.func69 rfl (by kernel_rfl) 33 [] rfl rfl rfl (fun E ι0 => ?_)
  refine rg pg ?_
  refine join (fun x5 : Int => ⟨[(1, .d (.int .i64 below)), (3, .ptr 1001 0), (4, .ptr 4 0)], [(1001, some (.cells [.clo 69 [.ptr 1000 0, .ptr 1001 0]] 89)), (4, some (.cells ((dTm t).map V.d) 28)), (1000, some (.cells [.clo 79 [.ptr 1002 0, .ptr 1003 0]] 69)), (1002, some (.cells [.d (.int .i64 o2)] 3)), (1003, some (.cells [.d (.int .i64 x5)] 3))], [1001, 4, 1000, 1002, 1003]⟩) (fun x5 => tree_Each_1_436_k1 self t below o2 x5) r ?_ (fun x5 h => ?_)
  ·refine rg pg ?_
   refine cd h rfl (fun h hb1 => ?_) (fun h hb1 => ?_)
   ·refine rl pg ?_
    obtain ⟨r2, h3, h⟩ := bndB h
    refine callW [(1000, 1002), (1001, 1003)] (tree_Count_1_9d7_ev h3) rfl rfl rfl rfl rfl ?_
    exact jt r2 h rfl rfl rfl
   ·refine sk ?_
    exact jt o3 h rfl rfl rfl
  ·refine join (fun x8 : Int => ⟨[(1, .d (.int .i64 x8)), (3, .ptr 1001 0), (4, .ptr 4 0)], [(1001, some (.cells [.clo 69 [.ptr 1000 0, .ptr 1001 0]] 89)), (4, some (.cells ((dTm t).map V.d) 28)), (1000, some (.cells [.clo 79 [.ptr 1002 0, .ptr 1003 0]] 69)), (1002, some (.cells [.d (.int .i64 o2)] 3)), (1003, some (.cells [.d (.int .i64 x5)] 3))], [1001, 4, 1000, 1002, 1003]⟩) (fun x8 => tree_Each_1_436_k2 self t o2 x5 x8) r ?_ (fun x8 h => ?_)
   ·refine rg pg ?_
    refine cd h rfl (fun h hb6 => ?_) (fun h hb6 => ?_)
    ·refine rl pg ?_
     exact jt (w64 (below + 1)) h rfl rfl rfl
    ·refine sk ?_
     exact jt below h rfl rfl rfl
   ·refine rg pg ?_
    refine LenW.mk (dTms_len _) ?_
    refine rangeK (X := Int) pg t.args _ rfl (fun x13 => [(1, .d (.int .i64 x8)), (3, .ptr 1001 0), (22, .d (.slice (dTms t.args)))]) (fun x13 => [(1001, some (.cells [.clo 69 [.ptr 1000 0, .ptr 1001 0]] 89)), (1000, some (.cells [.clo 79 [.ptr 1002 0, .ptr 1003 0]] 69)), (1002, some (.cells [.d (.int .i64 o2)] 3)), (1003, some (.cells [.d (.int .i64 x13)] 3))]) [1001, 1000, 1002, 1003] h rfl rfl rfl rfl (fun _ => ⟨rfl, rfl⟩) 22 rfl (dTms_len _) (fun k10 i11 a9 x13 _ g12 h => ?_) (fun x13 h => ?_)
    ·refine rg pg ?_
     refine IdxW.mk (Int.natCast_nonneg _) (dTms_get g12) rfl ?_
     refine rl pg ?_
     obtain ⟨r21, h22, h⟩ := bndB h
     refine callW [(1000, 1000), (1001, 1001), (1002, 1002), (1003, 1003)] (hs h22) rfl rfl rfl rfl rfl ?_
     exact jt r21 h rfl rfl rfl
    ·obtain rfl := Option.some.inj h
     exact enN rfl rfl
theorem tree_Each_1_436_me : ∀ (m : Nat) {t : Trm} {below : Int} {o2 : Int} {o3 : Int} {r : Int}, tree_Each_1_436_m m t below o2 o3 = some r → Ev Tryz.prog GL 69 [.agg ((dTm t).map V.d), .d (.int .i64 below), .ptr 1000 0, .ptr 1001 0] [(1000, .cells [.clo 79 [.ptr 1002 0, .ptr 1003 0]] 69), (1001, .cells [.clo 69 [.ptr 1000 0, .ptr 1001 0]] 89), (1002, .cells [.d (.int .i64 o2)] 3), (1003, .cells [.d (.int .i64 o3)] 3)] (.tup []) [(1000, .cells [.clo 79 [.ptr 1002 0, .ptr 1003 0]] 69), (1001, .cells [.clo 69 [.ptr 1000 0, .ptr 1001 0]] 89), (1002, .cells [.d (.int .i64 o2)] 3), (1003, .cells [.d (.int .i64 r)] 3)]
  | 0, _, _, _, _, _, h => nomatch (show none = some _ from h)
  | m + 1, _, _, _, _, _, h => tree_Each_1_436_be (tree_Each_1_436_m m) (fun h => tree_Each_1_436_me m h) h
theorem tree_Each_1_436_ev {t : Trm} {below : Int} {o2 : Int} {o3 : Int} {r : Int} (h : tree_Each_1_436 t below o2 o3 = some r) : Ev Tryz.prog GL 69 [.agg ((dTm t).map V.d), .d (.int .i64 below), .ptr 1000 0, .ptr 1001 0] [(1000, .cells [.clo 79 [.ptr 1002 0, .ptr 1003 0]] 69), (1001, .cells [.clo 69 [.ptr 1000 0, .ptr 1001 0]] 89), (1002, .cells [.d (.int .i64 o2)] 3), (1003, .cells [.d (.int .i64 o3)] 3)] (.tup []) [(1000, .cells [.clo 79 [.ptr 1002 0, .ptr 1003 0]] 69), (1001, .cells [.clo 69 [.ptr 1000 0, .ptr 1001 0]] 89), (1002, .cells [.d (.int .i64 o2)] 3), (1003, .cells [.d (.int .i64 r)] 3)] := tree_Each_1_436_me FU h
theorem tree_Each_746_ev {t : Trm} {o0 : Int} {o1 : Int} {r : Int} (h : tree_Each_746 t o0 o1 = some r) : Ev Tryz.prog GL 42 [.agg ((dTm t).map V.d), .clo 79 [.ptr 1000 0, .ptr 1001 0]] [(1000, .cells [.d (.int .i64 o0)] 3), (1001, .cells [.d (.int .i64 o1)] 3)] (.tup []) [(1000, .cells [.d (.int .i64 o0)] 3), (1001, .cells [.d (.int .i64 r)] 3)] := by
  refine evb pg Tryz.func42 rfl (by kernel_rfl) 9 [] rfl rfl rfl (fun E ι0 => ?_)
  refine rg pg ?_
  refine rg pg ?_
  refine rg pg ?_
  refine rl pg ?_
  obtain ⟨r1, h2, h⟩ := bndB h
  refine callW [(1000, 3), (1001, 4), (1002, 1000), (1003, 1001)] (tree_Each_1_436_ev h2) rfl rfl rfl rfl rfl ?_
  obtain rfl := Option.some.inj h
  exact enN rfl rfl
theorem tree_Count_ev {t : Trm} {at_ : Int} {r : Int} (h : tree_Count t at_ = some r) : Ev Tryz.prog GL 55 [.agg ((dTm t).map V.d), .d (.int .i64 at_)] [] (.d (.int .i64 r)) [] := by
  refine evb pg Tryz.func55 rfl (by kernel_rfl) 10 [.tmp 4] rfl rfl rfl (fun E ι0 => ?_)
  refine rg pg ?_
  refine rg pg ?_
  refine rg pg ?_
  obtain ⟨r1, h2, h⟩ := bndB h
  refine callW [(1000, 3), (1001, 5)] (tree_Each_746_ev h2) rfl rfl rfl rfl rfl ?_
  refine rg pg ?_
  refine rt ?_
  obtain rfl := Option.some.inj h
  exact en rfl rfl
theorem tree_Var_ev {index : Int} {r : Trm} (h : tree_Var index = some r) : Ev Tryz.prog GL 78 [.d (.int .i64 index)] [] (.agg ((dTm r).map V.d)) [] := by
  refine evb pg Tryz.func78 rfl (by kernel_rfl) 5 [.cell 2 28] rfl rfl rfl (fun E ι0 => ?_)
  refine rg pg ?_
  refine rg pg ?_
  refine rt ?_
  obtain rfl := Option.some.inj h
  exact en rfl rfl
theorem tree_Lift_1_9d7_ev {index : Int} {below : Int} {o0 : Int} {o1 : Int} {r : Trm} (h : tree_Lift_1_9d7 index below o0 o1 = some r) : Ev Tryz.prog GL 77 [.d (.int .i64 index), .d (.int .i64 below), .ptr 1000 0, .ptr 1001 0] [(1000, .cells [.d (.int .i64 o0)] 3), (1001, .cells [.d (.int .i64 o1)] 3)] (.agg ((dTm r).map V.d)) [(1000, .cells [.d (.int .i64 o0)] 3), (1001, .cells [.d (.int .i64 o1)] 3)] := by
  refine evb pg Tryz.func77 rfl (by kernel_rfl) 17 [.cell 6 28] rfl rfl rfl (fun E ι0 => ?_)
  refine rg pg ?_
  refine join (fun x3 : Int => ⟨[(0, .d (.int .i64 x3)), (6, .ptr 6 0)], [(6, some (.cells [.d (.int .i64 0), .d (.int .i64 0), .d (.int .i64 0), .d .nils, .d .nils] 28)), (1000, some (.cells [.d (.int .i64 o0)] 3)), (1001, some (.cells [.d (.int .i64 o1)] 3))], [6, 1000, 1001]⟩) (fun x3 => tree_Lift_1_9d7_k1 x3) r ?_ (fun x3 h => ?_)
  ·refine rg pg ?_
   refine cd h rfl (fun h hb1 => ?_) (fun h hb1 => ?_)
   ·refine rl pg ?_
    exact jt (w64 (index + o1)) h rfl rfl rfl
   ·refine sk ?_
    exact jt index h rfl rfl rfl
  ·refine rg pg ?_
   obtain ⟨r4, h5, h⟩ := bndB h
   refine callW0 (tree_Var_ev h5) rfl ?_
   refine rt ?_
   obtain rfl := Option.some.inj h
   exact en rfl rfl
theorem tree_OwnType_be (self : Typ → Option (Typ)) (hs : ∀ {t : Typ} {r : Typ}, self t = some r → Ev Tryz.prog GL 91 [.agg ((dTy t).map V.d)] [] (.agg ((dTy r).map V.d)) []) {t : Typ} {r : Typ} (h : tree_OwnType_b self t = some r) : Ev Tryz.prog GL 91 [.agg ((dTy t).map V.d)] [] (.agg ((dTy r).map V.d)) [] := by
  refine evb pg Tryz.func91 rfl (by kernel_rfl) 25 [.cell 2 25] rfl rfl rfl (fun E ι0 => ?_)
  refine rg pg ?_
  refine rg pg ?_
  refine sq ?_
  refine rg pg ?_
  refine LenW.mk (dTys_len _) ?_
  refine wrcN 201 3 1 2 25 rfl rfl rfl ?_
  refine rangeK (X := List Typ) pg t.args _ rfl (fun x5 => [(2, .ptr 2 0), (3, .ptr 3 0), (10, .d (.slice (dTys t.args)))]) (fun x5 => [(2, some (.cells [.d (.int .i64 0), .d .nils] 25)), (3, some (.cells [.d (.int .i64 t.kind), .own (dTys x5) 201] 25)), (201, some (.row (dTys x5).length 2 25))]) [2, 3, 201] h rfl rfl rfl rfl (fun _ => ⟨rfl, rfl⟩) 10 rfl (dTys_len _) (fun k2 i3 a1 x5 _ g4 h => ?_) (fun x5 h => ?_)
  ·refine rg pg ?_
   refine IdxW.mk (Int.natCast_nonneg _) (dTys_get g4) rfl ?_
   refine rld pg ?_
   obtain ⟨r18, h19, h⟩ := bndB h
   refine callW0 (hs h19) rfl ?_
   refine Ask.mk ⟨rfl, rfl⟩ (BsW.mk (dTys_map [r18]).symm (dTys_sz _) ?_)
   obtain ⟨p20, h⟩ := gdB h
   refine Ask.mk ⟨rfl, rfl, rfl⟩ (AppW.mk (dTys_app _ _) (dTys_sz _) (dTys_sz _) (by rw [dTys_len, dTys_len]; exact p20) ?_)
   refine Ask.mk (by kernel_rfl) ?_
   exact jt (x5 ++ [r18]) h rfl rfl rfl
  ·refine rg pg ?_
   refine rt ?_
   obtain rfl := Option.some.inj h
   exact en rfl rfl
theorem tree_OwnType_me : ∀ (m : Nat) {t : Typ} {r : Typ}, tree_OwnType_m m t = some r → Ev Tryz.prog GL 91 [.agg ((dTy t).map V.d)] [] (.agg ((dTy r).map V.d)) []
  | 0, _, _, h => nomatch (show none = some _ from h)
  | m + 1, _, _, h => tree_OwnType_be (tree_OwnType_m m) (fun h => tree_OwnType_me m h) h
theorem tree_OwnType_ev {t : Typ} {r : Typ} (h : tree_OwnType t = some r) : Ev Tryz.prog GL 91 [.agg ((dTy t).map V.d)] [] (.agg ((dTy r).map V.d)) [] := tree_OwnType_me FU h
theorem tree_Rebuild_1_253_be (self : Trm → Int → Int → Int → Option (Trm)) (hs : ∀ {t : Trm} {below : Int} {o2 : Int} {o3 : Int} {r : Trm}, self t below o2 o3 = some r → Ev Tryz.prog GL 90 [.agg ((dTm t).map V.d), .d (.int .i64 below), .ptr 1000 0, .ptr 1001 0] [(1000, .cells [.clo 77 [.ptr 1002 0, .ptr 1003 0]] 102), (1001, .cells [.clo 90 [.ptr 1000 0, .ptr 1001 0]] 103), (1002, .cells [.d (.int .i64 o2)] 3), (1003, .cells [.d (.int .i64 o3)] 3)] (.agg ((dTm r).map V.d)) [(1000, .cells [.clo 77 [.ptr 1002 0, .ptr 1003 0]] 102), (1001, .cells [.clo 90 [.ptr 1000 0, .ptr 1001 0]] 103), (1002, .cells [.d (.int .i64 o2)] 3), (1003, .cells [.d (.int .i64 o3)] 3)]) {t : Trm} {below : Int} {o2 : Int} {o3 : Int} {r : Trm} (h : tree_Rebuild_1_253_b self t below o2 o3 = some r) : Ev Tryz.prog GL 90 [.agg ((dTm t).map V.d), .d (.int .i64 below), .ptr 1000 0, .ptr 1001 0] [(1000, .cells [.clo 77 [.ptr 1002 0, .ptr 1003 0]] 102), (1001, .cells [.clo 90 [.ptr 1000 0, .ptr 1001 0]] 103), (1002, .cells [.d (.int .i64 o2)] 3), (1003, .cells [.d (.int .i64 o3)] 3)] (.agg ((dTm r).map V.d)) [(1000, .cells [.clo 77 [.ptr 1002 0, .ptr 1003 0]] 102), (1001, .cells [.clo 90 [.ptr 1000 0, .ptr 1001 0]] 103), (1002, .cells [.d (.int .i64 o2)] 3), (1003, .cells [.d (.int .i64 o3)] 3)] := by
  refine evb pg Tryz.func90 rfl (by kernel_rfl) 49 [.cell 6 28] rfl rfl rfl (fun E ι0 => ?_)
  refine rg pg ?_
  refine sq ?_
  refine rg pg ?_
  refine cd h rfl (fun h hb1 => ?_) (fun h hb1 => ?_)
  ·refine rg pg ?_
   obtain ⟨r2, h3, h⟩ := bndB h
   refine callW [(1000, 1002), (1001, 1003)] (tree_Lift_1_9d7_ev h3) rfl rfl rfl rfl rfl ?_
   refine rt ?_
   obtain rfl := Option.some.inj h
   exact en rfl rfl
  ·refine sk ?_
   refine rgd pg ?_
   obtain ⟨r4, h5, h⟩ := bndB h
   refine callW0 (tree_OwnType_ev h5) rfl ?_
   refine Ask.mk (by kernel_rfl) ?_
   refine join (fun x8 : Int => ⟨[(1, .d (.int .i64 x8)), (3, .ptr 1001 0), (4, .ptr 4 0), (6, .ptr 6 0), (7, .ptr 7 0)], [(1001, some (.cells [.clo 90 [.ptr 1000 0, .ptr 1001 0]] 103)), (4, some (.cells ((dTm t).map V.d) 28)), (6, some (.cells [.d (.int .i64 0), .d (.int .i64 0), .d (.int .i64 0), .d .nils, .d .nils] 28)), (7, some (.cells [.d (.int .i64 t.kind), .d (.int .i64 t.index), .d (.int .i64 r4.kind), .d (.slice (dTys r4.args)), .d .nils] 28)), (1000, some (.cells [.clo 77 [.ptr 1002 0, .ptr 1003 0]] 102)), (1002, some (.cells [.d (.int .i64 o2)] 3)), (1003, some (.cells [.d (.int .i64 o3)] 3))], [1001, 4, 6, 7, 1000, 1002, 1003]⟩) (fun x8 => tree_Rebuild_1_253_k1 self t o2 o3 r4 x8) r ?_ (fun x8 h => ?_)
   ·refine rg pg ?_
    refine cd h rfl (fun h hb6 => ?_) (fun h hb6 => ?_)
    ·refine rl pg ?_
     exact jt (w64 (below + 1)) h rfl rfl rfl
    ·refine sk ?_
     exact jt below h rfl rfl rfl
   ·refine sq ?_
    refine rg pg ?_
    refine LenW.mk (dTms_len _) ?_
    refine wrcN 201 7 4 5 28 rfl rfl rfl ?_
    refine rangeK (X := List Trm) pg t.args _ rfl (fun x13 => [(1, .d (.int .i64 x8)), (3, .ptr 1001 0), (6, .ptr 6 0), (7, .ptr 7 0), (32, .d (.slice (dTms t.args)))]) (fun x13 => [(1001, some (.cells [.clo 90 [.ptr 1000 0, .ptr 1001 0]] 103)), (6, some (.cells [.d (.int .i64 0), .d (.int .i64 0), .d (.int .i64 0), .d .nils, .d .nils] 28)), (7, some (.cells [.d (.int .i64 t.kind), .d (.int .i64 t.index), .d (.int .i64 r4.kind), .d (.slice (dTys r4.args)), .own (dTms x13) 201] 28)), (201, some (.row (dTms x13).length 5 28)), (1000, some (.cells [.clo 77 [.ptr 1002 0, .ptr 1003 0]] 102)), (1002, some (.cells [.d (.int .i64 o2)] 3)), (1003, some (.cells [.d (.int .i64 o3)] 3))]) [1001, 6, 7, 201, 1000, 1002, 1003] h rfl rfl rfl rfl (fun _ => ⟨rfl, rfl⟩) 32 rfl (dTms_len _) (fun k10 i11 a9 x13 _ g12 h => ?_) (fun x13 h => ?_)
    ·refine rg pg ?_
     refine IdxW.mk (Int.natCast_nonneg _) (dTms_get g12) rfl ?_
     refine rld pg ?_
     obtain ⟨r26, h27, h⟩ := bndB h
     refine callW [(1000, 1000), (1001, 1001), (1002, 1002), (1003, 1003)] (hs h27) rfl rfl rfl rfl rfl ?_
     refine Ask.mk ⟨rfl, rfl⟩ (BsW.mk (dTms_map [r26]).symm (dTms_sz _) ?_)
     obtain ⟨p28, h⟩ := gdB h
     refine Ask.mk ⟨rfl, rfl, rfl⟩ (AppW.mk (dTms_app _ _) (dTms_sz _) (dTms_sz _) (by rw [dTms_len, dTms_len]; exact p28) ?_)
     refine Ask.mk (by kernel_rfl) ?_
     exact jt (x13 ++ [r26]) h rfl rfl rfl
    ·refine rg pg ?_
     refine rt ?_
     obtain rfl := Option.some.inj h
     exact en rfl rfl
theorem tree_Rebuild_1_253_me : ∀ (m : Nat) {t : Trm} {below : Int} {o2 : Int} {o3 : Int} {r : Trm}, tree_Rebuild_1_253_m m t below o2 o3 = some r → Ev Tryz.prog GL 90 [.agg ((dTm t).map V.d), .d (.int .i64 below), .ptr 1000 0, .ptr 1001 0] [(1000, .cells [.clo 77 [.ptr 1002 0, .ptr 1003 0]] 102), (1001, .cells [.clo 90 [.ptr 1000 0, .ptr 1001 0]] 103), (1002, .cells [.d (.int .i64 o2)] 3), (1003, .cells [.d (.int .i64 o3)] 3)] (.agg ((dTm r).map V.d)) [(1000, .cells [.clo 77 [.ptr 1002 0, .ptr 1003 0]] 102), (1001, .cells [.clo 90 [.ptr 1000 0, .ptr 1001 0]] 103), (1002, .cells [.d (.int .i64 o2)] 3), (1003, .cells [.d (.int .i64 o3)] 3)]
  | 0, _, _, _, _, _, h => nomatch (show none = some _ from h)
  | m + 1, _, _, _, _, _, h => tree_Rebuild_1_253_be (tree_Rebuild_1_253_m m) (fun h => tree_Rebuild_1_253_me m h) h
theorem tree_Rebuild_1_253_ev {t : Trm} {below : Int} {o2 : Int} {o3 : Int} {r : Trm} (h : tree_Rebuild_1_253 t below o2 o3 = some r) : Ev Tryz.prog GL 90 [.agg ((dTm t).map V.d), .d (.int .i64 below), .ptr 1000 0, .ptr 1001 0] [(1000, .cells [.clo 77 [.ptr 1002 0, .ptr 1003 0]] 102), (1001, .cells [.clo 90 [.ptr 1000 0, .ptr 1001 0]] 103), (1002, .cells [.d (.int .i64 o2)] 3), (1003, .cells [.d (.int .i64 o3)] 3)] (.agg ((dTm r).map V.d)) [(1000, .cells [.clo 77 [.ptr 1002 0, .ptr 1003 0]] 102), (1001, .cells [.clo 90 [.ptr 1000 0, .ptr 1001 0]] 103), (1002, .cells [.d (.int .i64 o2)] 3), (1003, .cells [.d (.int .i64 o3)] 3)] := tree_Rebuild_1_253_me FU h
theorem tree_Rebuild_591_ev {t : Trm} {o0 : Int} {o1 : Int} {r : Trm} (h : tree_Rebuild_591 t o0 o1 = some r) : Ev Tryz.prog GL 76 [.agg ((dTm t).map V.d), .clo 77 [.ptr 1000 0, .ptr 1001 0]] [(1000, .cells [.d (.int .i64 o0)] 3), (1001, .cells [.d (.int .i64 o1)] 3)] (.agg ((dTm r).map V.d)) [(1000, .cells [.d (.int .i64 o0)] 3), (1001, .cells [.d (.int .i64 o1)] 3)] := by
  refine evb pg Tryz.func76 rfl (by kernel_rfl) 10 [.cell 4 28] rfl rfl rfl (fun E ι0 => ?_)
  refine rg pg ?_
  refine rg pg ?_
  refine rg pg ?_
  refine rg pg ?_
  obtain ⟨r1, h2, h⟩ := bndB h
  refine callW [(1000, 3), (1001, 5), (1002, 1000), (1003, 1001)] (tree_Rebuild_1_253_ev h2) rfl rfl rfl rfl rfl ?_
  refine rt ?_
  obtain rfl := Option.some.inj h
  exact en rfl rfl
theorem tree_Lift_ev {t : Trm} {from_ : Int} {by_ : Int} {r : Trm} (h : tree_Lift t from_ by_ = some r) : Ev Tryz.prog GL 51 [.agg ((dTm t).map V.d), .d (.int .i64 from_), .d (.int .i64 by_)] [] (.agg ((dTm r).map V.d)) [] := by
  refine evb pg Tryz.func51 rfl (by kernel_rfl) 10 [.cell 6 28] rfl rfl rfl (fun E ι0 => ?_)
  refine rg pg ?_
  refine rg pg ?_
  obtain ⟨r1, h2, h⟩ := bndB h
  refine callW [(1000, 4), (1001, 5)] (tree_Rebuild_591_ev h2) rfl rfl rfl rfl rfl ?_
  refine rt ?_
  obtain rfl := Option.some.inj h
  exact en rfl rfl
theorem tree_Put_1_fa2_ev {index : Int} {below : Int} {o0 : Int} {o1 : Trm} {r : Trm} (h : tree_Put_1_fa2 index below o0 o1 = some r) : Ev Tryz.prog GL 80 [.d (.int .i64 index), .d (.int .i64 below), .ptr 1000 0, .ptr 1001 0] [(1000, .cells [.d (.int .i64 o0)] 3), (1001, .cells ((dTm o1).map V.d) 28)] (.agg ((dTm r).map V.d)) [(1000, .cells [.d (.int .i64 o0)] 3), (1001, .cells ((dTm o1).map V.d) 28)] := by
  refine evb pg Tryz.func80 rfl (by kernel_rfl) 29 [.cell 6 28] rfl rfl rfl (fun E ι0 => ?_)
  refine rg pg ?_
  refine sq ?_
  refine rg pg ?_
  refine bk ?_
  refine rg pg ?_
  refine cd h rfl (fun h hb1 => ?_) (fun h hb1 => ?_)
  ·refine rg pg ?_
   obtain ⟨r2, h3, h⟩ := bndB h
   refine callW0 (tree_Lift_ev h3) rfl ?_
   refine rt ?_
   obtain rfl := Option.some.inj h
   exact en rfl rfl
  ·refine rg pg ?_
   refine cd h rfl (fun h hb4 => ?_) (fun h hb4 => ?_)
   ·refine rg pg ?_
    obtain ⟨r5, h6, h⟩ := bndB h
    refine callW0 (tree_Var_ev h6) rfl ?_
    refine rt ?_
    obtain rfl := Option.some.inj h
    exact en rfl rfl
   ·refine sk ?_
    refine rg pg ?_
    obtain ⟨r7, h8, h⟩ := bndB h
    refine callW0 (tree_Var_ev h8) rfl ?_
    refine rt ?_
    obtain rfl := Option.some.inj h
    exact en rfl rfl
theorem tree_Rebuild_1_a63_be (self : Trm → Int → Int → Trm → Option (Trm)) (hs : ∀ {t : Trm} {below : Int} {o2 : Int} {o3 : Trm} {r : Trm}, self t below o2 o3 = some r → Ev Tryz.prog GL 90 [.agg ((dTm t).map V.d), .d (.int .i64 below), .ptr 1000 0, .ptr 1001 0] [(1000, .cells [.clo 80 [.ptr 1002 0, .ptr 1003 0]] 102), (1001, .cells [.clo 90 [.ptr 1000 0, .ptr 1001 0]] 103), (1002, .cells [.d (.int .i64 o2)] 3), (1003, .cells ((dTm o3).map V.d) 28)] (.agg ((dTm r).map V.d)) [(1000, .cells [.clo 80 [.ptr 1002 0, .ptr 1003 0]] 102), (1001, .cells [.clo 90 [.ptr 1000 0, .ptr 1001 0]] 103), (1002, .cells [.d (.int .i64 o2)] 3), (1003, .cells ((dTm o3).map V.d) 28)]) {t : Trm} {below : Int} {o2 : Int} {o3 : Trm} {r : Trm} (h : tree_Rebuild_1_a63_b self t below o2 o3 = some r) : Ev Tryz.prog GL 90 [.agg ((dTm t).map V.d), .d (.int .i64 below), .ptr 1000 0, .ptr 1001 0] [(1000, .cells [.clo 80 [.ptr 1002 0, .ptr 1003 0]] 102), (1001, .cells [.clo 90 [.ptr 1000 0, .ptr 1001 0]] 103), (1002, .cells [.d (.int .i64 o2)] 3), (1003, .cells ((dTm o3).map V.d) 28)] (.agg ((dTm r).map V.d)) [(1000, .cells [.clo 80 [.ptr 1002 0, .ptr 1003 0]] 102), (1001, .cells [.clo 90 [.ptr 1000 0, .ptr 1001 0]] 103), (1002, .cells [.d (.int .i64 o2)] 3), (1003, .cells ((dTm o3).map V.d) 28)] := by
  refine evb pg Tryz.func90 rfl (by kernel_rfl) 49 [.cell 6 28] rfl rfl rfl (fun E ι0 => ?_)
  refine rg pg ?_
  refine sq ?_
  refine rg pg ?_
  refine cd h rfl (fun h hb1 => ?_) (fun h hb1 => ?_)
  ·refine rg pg ?_
   obtain ⟨r2, h3, h⟩ := bndB h
   refine callW [(1000, 1002), (1001, 1003)] (tree_Put_1_fa2_ev h3) rfl rfl rfl rfl rfl ?_
   refine rt ?_
   obtain rfl := Option.some.inj h
   exact en rfl rfl
  ·refine sk ?_
   refine rgd pg ?_
   obtain ⟨r4, h5, h⟩ := bndB h
   refine callW0 (tree_OwnType_ev h5) rfl ?_
   refine Ask.mk (by kernel_rfl) ?_
   refine join (fun x8 : Int => ⟨[(1, .d (.int .i64 x8)), (3, .ptr 1001 0), (4, .ptr 4 0), (6, .ptr 6 0), (7, .ptr 7 0)], [(1001, some (.cells [.clo 90 [.ptr 1000 0, .ptr 1001 0]] 103)), (4, some (.cells ((dTm t).map V.d) 28)), (6, some (.cells [.d (.int .i64 0), .d (.int .i64 0), .d (.int .i64 0), .d .nils, .d .nils] 28)), (7, some (.cells [.d (.int .i64 t.kind), .d (.int .i64 t.index), .d (.int .i64 r4.kind), .d (.slice (dTys r4.args)), .d .nils] 28)), (1000, some (.cells [.clo 80 [.ptr 1002 0, .ptr 1003 0]] 102)), (1002, some (.cells [.d (.int .i64 o2)] 3)), (1003, some (.cells ((dTm o3).map V.d) 28))], [1001, 4, 6, 7, 1000, 1002, 1003]⟩) (fun x8 => tree_Rebuild_1_a63_k1 self t o2 o3 r4 x8) r ?_ (fun x8 h => ?_)
   ·refine rg pg ?_
    refine cd h rfl (fun h hb6 => ?_) (fun h hb6 => ?_)
    ·refine rl pg ?_
     exact jt (w64 (below + 1)) h rfl rfl rfl
    ·refine sk ?_
     exact jt below h rfl rfl rfl
   ·refine sq ?_
    refine rg pg ?_
    refine LenW.mk (dTms_len _) ?_
    refine wrcN 201 7 4 5 28 rfl rfl rfl ?_
    refine rangeK (X := List Trm) pg t.args _ rfl (fun x13 => [(1, .d (.int .i64 x8)), (3, .ptr 1001 0), (6, .ptr 6 0), (7, .ptr 7 0), (32, .d (.slice (dTms t.args)))]) (fun x13 => [(1001, some (.cells [.clo 90 [.ptr 1000 0, .ptr 1001 0]] 103)), (6, some (.cells [.d (.int .i64 0), .d (.int .i64 0), .d (.int .i64 0), .d .nils, .d .nils] 28)), (7, some (.cells [.d (.int .i64 t.kind), .d (.int .i64 t.index), .d (.int .i64 r4.kind), .d (.slice (dTys r4.args)), .own (dTms x13) 201] 28)), (201, some (.row (dTms x13).length 5 28)), (1000, some (.cells [.clo 80 [.ptr 1002 0, .ptr 1003 0]] 102)), (1002, some (.cells [.d (.int .i64 o2)] 3)), (1003, some (.cells ((dTm o3).map V.d) 28))]) [1001, 6, 7, 201, 1000, 1002, 1003] h rfl rfl rfl rfl (fun _ => ⟨rfl, rfl⟩) 32 rfl (dTms_len _) (fun k10 i11 a9 x13 _ g12 h => ?_) (fun x13 h => ?_)
    ·refine rg pg ?_
     refine IdxW.mk (Int.natCast_nonneg _) (dTms_get g12) rfl ?_
     refine rld pg ?_
     obtain ⟨r26, h27, h⟩ := bndB h
     refine callW [(1000, 1000), (1001, 1001), (1002, 1002), (1003, 1003)] (hs h27) rfl rfl rfl rfl rfl ?_
     refine Ask.mk ⟨rfl, rfl⟩ (BsW.mk (dTms_map [r26]).symm (dTms_sz _) ?_)
     obtain ⟨p28, h⟩ := gdB h
     refine Ask.mk ⟨rfl, rfl, rfl⟩ (AppW.mk (dTms_app _ _) (dTms_sz _) (dTms_sz _) (by rw [dTms_len, dTms_len]; exact p28) ?_)
     refine Ask.mk (by kernel_rfl) ?_
     exact jt (x13 ++ [r26]) h rfl rfl rfl
    ·refine rg pg ?_
     refine rt ?_
     obtain rfl := Option.some.inj h
     exact en rfl rfl
theorem tree_Rebuild_1_a63_me : ∀ (m : Nat) {t : Trm} {below : Int} {o2 : Int} {o3 : Trm} {r : Trm}, tree_Rebuild_1_a63_m m t below o2 o3 = some r → Ev Tryz.prog GL 90 [.agg ((dTm t).map V.d), .d (.int .i64 below), .ptr 1000 0, .ptr 1001 0] [(1000, .cells [.clo 80 [.ptr 1002 0, .ptr 1003 0]] 102), (1001, .cells [.clo 90 [.ptr 1000 0, .ptr 1001 0]] 103), (1002, .cells [.d (.int .i64 o2)] 3), (1003, .cells ((dTm o3).map V.d) 28)] (.agg ((dTm r).map V.d)) [(1000, .cells [.clo 80 [.ptr 1002 0, .ptr 1003 0]] 102), (1001, .cells [.clo 90 [.ptr 1000 0, .ptr 1001 0]] 103), (1002, .cells [.d (.int .i64 o2)] 3), (1003, .cells ((dTm o3).map V.d) 28)]
  | 0, _, _, _, _, _, h => nomatch (show none = some _ from h)
  | m + 1, _, _, _, _, _, h => tree_Rebuild_1_a63_be (tree_Rebuild_1_a63_m m) (fun h => tree_Rebuild_1_a63_me m h) h
theorem tree_Rebuild_1_a63_ev {t : Trm} {below : Int} {o2 : Int} {o3 : Trm} {r : Trm} (h : tree_Rebuild_1_a63 t below o2 o3 = some r) : Ev Tryz.prog GL 90 [.agg ((dTm t).map V.d), .d (.int .i64 below), .ptr 1000 0, .ptr 1001 0] [(1000, .cells [.clo 80 [.ptr 1002 0, .ptr 1003 0]] 102), (1001, .cells [.clo 90 [.ptr 1000 0, .ptr 1001 0]] 103), (1002, .cells [.d (.int .i64 o2)] 3), (1003, .cells ((dTm o3).map V.d) 28)] (.agg ((dTm r).map V.d)) [(1000, .cells [.clo 80 [.ptr 1002 0, .ptr 1003 0]] 102), (1001, .cells [.clo 90 [.ptr 1000 0, .ptr 1001 0]] 103), (1002, .cells [.d (.int .i64 o2)] 3), (1003, .cells ((dTm o3).map V.d) 28)] := tree_Rebuild_1_a63_me FU h
theorem tree_Rebuild_9ab_ev {t : Trm} {o0 : Int} {o1 : Trm} {r : Trm} (h : tree_Rebuild_9ab t o0 o1 = some r) : Ev Tryz.prog GL 76 [.agg ((dTm t).map V.d), .clo 80 [.ptr 1000 0, .ptr 1001 0]] [(1000, .cells [.d (.int .i64 o0)] 3), (1001, .cells ((dTm o1).map V.d) 28)] (.agg ((dTm r).map V.d)) [(1000, .cells [.d (.int .i64 o0)] 3), (1001, .cells ((dTm o1).map V.d) 28)] := by
  refine evb pg Tryz.func76 rfl (by kernel_rfl) 10 [.cell 4 28] rfl rfl rfl (fun E ι0 => ?_)
  refine rg pg ?_
  refine rg pg ?_
  refine rg pg ?_
  refine rg pg ?_
  obtain ⟨r1, h2, h⟩ := bndB h
  refine callW [(1000, 3), (1001, 5), (1002, 1000), (1003, 1001)] (tree_Rebuild_1_a63_ev h2) rfl rfl rfl rfl rfl ?_
  refine rt ?_
  obtain rfl := Option.some.inj h
  exact en rfl rfl
theorem tree_Put_ev {t : Trm} {at_ : Int} {s : Trm} {r : Trm} (h : tree_Put t at_ s = some r) : Ev Tryz.prog GL 56 [.agg ((dTm t).map V.d), .d (.int .i64 at_), .agg ((dTm s).map V.d)] [] (.agg ((dTm r).map V.d)) [] := by
  refine evb pg Tryz.func56 rfl (by kernel_rfl) 10 [.cell 6 28] rfl rfl rfl (fun E ι0 => ?_)
  refine rg pg ?_
  refine rg pg ?_
  obtain ⟨r1, h2, h⟩ := bndB h
  refine callW [(1000, 4), (1001, 5)] (tree_Rebuild_9ab_ev h2) rfl rfl rfl rfl rfl ?_
  refine rt ?_
  obtain rfl := Option.some.inj h
  exact en rfl rfl
theorem subst_Put_ev {t : Trm} {at_ : Int} {s : Trm} {r : Trm × Int} (h : subst_Put t at_ s = some r) : Ev Tryz.prog GL 22 [.agg ((dTm t).map V.d), .d (.int .i64 at_), .agg ((dTm s).map V.d)] [] (.tup [.agg ((dTm r.1).map V.d), .d (.int .i64 r.2)]) [] := by
  refine evb pg Tryz.func22 rfl (by kernel_rfl) 56 [.cell 6 28, .tmp 7] rfl rfl rfl (fun E ι0 => ?_)
  refine rg pg ?_
  refine rg pg ?_
  obtain ⟨r1, h2, h⟩ := bndB h
  refine callW0 (terms_Size_ev h2) rfl ?_
  refine sq ?_
  refine rg pg ?_
  refine cd h rfl (fun h hb3 => ?_) (fun h hb3 => ?_)
  ·refine rg pg ?_
   refine rt ?_
   obtain rfl := Option.some.inj h
   exact en rfl rfl
  ·refine sk ?_
   refine sq ?_
   refine rg pg ?_
   obtain ⟨r4, h5, h⟩ := bndB h
   refine callW0 (subst_within_ev h5) rfl ?_
   refine cd h rfl (fun h hb6 => ?_) (fun h hb6 => ?_)
   ·refine rg pg ?_
    refine rt ?_
    obtain rfl := Option.some.inj h
    exact en rfl rfl
   ·refine sk ?_
    refine rg pg ?_
    obtain ⟨r7, h8, h⟩ := bndB h
    refine callW0 (terms_Size_ev h8) rfl ?_
    refine sq ?_
    refine rg pg ?_
    refine cd h rfl (fun h hb9 => ?_) (fun h hb9 => ?_)
    ·refine rg pg ?_
     refine rt ?_
     obtain rfl := Option.some.inj h
     exact en rfl rfl
    ·refine sk ?_
     refine sq ?_
     refine rg pg ?_
     obtain ⟨r10, h11, h⟩ := bndB h
     refine callW0 (tree_Near_ev h11) rfl ?_
     refine gwF h (fun h hb12 => ?_) (fun h hb12 => ?_)
     ·refine gf rfl ?_
      refine gf rfl ?_
      refine cdT rfl ?_
      refine rg pg ?_
      refine rt ?_
      obtain rfl := Option.some.inj h
      exact en rfl rfl
     ·refine gl rfl ?_
      obtain ⟨r13, h14, h⟩ := bndB h
      refine callW0 (tree_Near_ev h14) rfl ?_
      refine gl rfl ?_
      refine cd h rfl (fun h hb15 => ?_) (fun h hb15 => ?_)
      ·refine rg pg ?_
       refine rt ?_
       obtain rfl := Option.some.inj h
       exact en rfl rfl
      ·refine sk ?_
       refine sq ?_
       refine rg pg ?_
       obtain ⟨r16, h17, h⟩ := bndB h
       refine callW0 (tree_Count_ev h17) rfl ?_
       refine cd h rfl (fun h hb18 => ?_) (fun h hb18 => ?_)
       ·refine rg pg ?_
        refine rt ?_
        obtain rfl := Option.some.inj h
        exact en rfl rfl
       ·refine sk ?_
        refine rg pg ?_
        obtain ⟨r19, h20, h⟩ := bndB h
        refine callW0 (tree_Put_ev h20) rfl ?_
        refine rt ?_
        obtain rfl := Option.some.inj h
        exact en rfl rfl
theorem ref01_Nat_ev {_u : Unit} {r : Typ} (h : ref01_Nat _u = some r) : Ev Tryz.prog GL 27 [] [] (.agg ((dTy r).map V.d)) [] := by
  refine evb pg Tryz.func27 rfl (by kernel_rfl) 2 [.cell 0 25] rfl rfl rfl (fun E ι0 => ?_)
  refine rg pg ?_
  refine rg pg ?_
  refine rt ?_
  obtain rfl := Option.some.inj h
  exact en rfl rfl
theorem ref02_T_ev {kind : Int} {s : Typ} {l : List Trm} {r : Trm} (h : ref02_T kind s l = some r) : Ev Tryz.prog GL 26 [.d (.int .i64 kind), .agg ((dTy s).map V.d), .d (.slice (dTms l))] [] (.agg ((dTm r).map V.d)) [] := by
  refine evb pg Tryz.func26 rfl (by kernel_rfl) 15 [.cell 6 28] rfl rfl rfl (fun E ι0 => ?_)
  refine rg pg ?_
  refine rg pg ?_
  obtain ⟨r1, h2, h⟩ := bndB h
  refine callW0 (ref02_N_ev h2) rfl ?_
  refine rg pg ?_
  obtain ⟨r3, h4, h⟩ := bndB h
  refine callW0 (ref01_Copy_ev h4) rfl ?_
  refine rg pg ?_
  refine rt ?_
  obtain rfl := Option.some.inj h
  exact en rfl rfl
theorem ref01_Same_be (self : Typ → Typ → Option (Bool)) (hs : ∀ {a : Typ} {b : Typ} {r : Bool}, self a b = some r → Ev Tryz.prog GL 34 [.agg ((dTy a).map V.d), .agg ((dTy b).map V.d)] [] (.d (.bool r)) []) {a : Typ} {b : Typ} {r : Bool} (h : ref01_Same_b self a b = some r) : Ev Tryz.prog GL 34 [.agg ((dTy a).map V.d), .agg ((dTy b).map V.d)] [] (.d (.bool r)) [] := by
  refine evb pg Tryz.func34 rfl (by kernel_rfl) 39 [.tmp 4] rfl rfl rfl (fun E ι0 => ?_)
  refine rg pg ?_
  refine sq ?_
  refine rg pg ?_
  refine gwF h (fun h hb1 => ?_) (fun h hb1 => ?_)
  ·refine gf rfl ?_
   refine gf rfl ?_
   refine gf rfl ?_
   refine gf rfl ?_
   refine gf rfl ?_
   refine gf rfl ?_
   refine cdT rfl ?_
   refine rg pg ?_
   refine rt ?_
   obtain rfl := Option.some.inj h
   exact en rfl rfl
  ·refine gl rfl ?_
   refine gl rfl ?_
   refine LenW.mk (dTys_len _) ?_
   refine gl rfl ?_
   refine gl rfl ?_
   refine gl rfl ?_
   refine LenW.mk (dTys_len _) ?_
   refine gl rfl ?_
   refine cd h rfl (fun h hb2 => ?_) (fun h hb2 => ?_)
   ·refine rg pg ?_
    refine rt ?_
    obtain rfl := Option.some.inj h
    exact en rfl rfl
   ·refine sk ?_
    refine sq ?_
    refine rg pg ?_
    refine LenW.mk (dTys_len _) ?_
    refine rangeK (X := Unit) pg a.args _ rfl (fun x7 => [(2, .ptr 2 0), (3, .ptr 3 0)]) (fun x7 => [(2, some (.cells ((dTy a).map V.d) 25)), (3, some (.cells ((dTy b).map V.d) 25))]) [2, 3] h rfl rfl rfl rfl (fun _ => ⟨rfl, rfl⟩) 13 rfl (dTys_len _) (fun k4 i5 a3 x7 _ g6 h => ?_) (fun x7 h => ?_)
    ·refine rg pg ?_
     refine rgd pg ?_
     refine IdxW.mk (Int.natCast_nonneg _) (dTys_get g6) rfl ?_
     obtain ⟨a14, p15, g16, h⟩ := idxB h
     refine IdxW.mk p15 (dTys_get g16) rfl ?_
     obtain ⟨r17, h18, h⟩ := bndB h
     refine callW0 (hs h18) rfl ?_
     refine Ask.mk (by kernel_rfl) ?_
     refine cd h rfl (fun h hb19 => ?_) (fun h hb19 => ?_)
     ·refine rg pg ?_
      refine rt ?_
      obtain rfl := Option.some.inj h
      exact en rfl rfl
     ·refine sk ?_
      exact jt () h rfl rfl rfl
    ·refine rg pg ?_
     refine rt ?_
     obtain rfl := Option.some.inj h
     exact en rfl rfl
theorem ref01_Same_me : ∀ (m : Nat) {a : Typ} {b : Typ} {r : Bool}, ref01_Same_m m a b = some r → Ev Tryz.prog GL 34 [.agg ((dTy a).map V.d), .agg ((dTy b).map V.d)] [] (.d (.bool r)) []
  | 0, _, _, _, h => nomatch (show none = some _ from h)
  | m + 1, _, _, _, h => ref01_Same_be (ref01_Same_m m) (fun h => ref01_Same_me m h) h
theorem ref01_Same_ev {a : Typ} {b : Typ} {r : Bool} (h : ref01_Same a b = some r) : Ev Tryz.prog GL 34 [.agg ((dTy a).map V.d), .agg ((dTy b).map V.d)] [] (.d (.bool r)) [] := ref01_Same_me FU h
end Go.AM

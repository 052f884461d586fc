/-
  The Go functions reckon what the printed ones do.
-/
import Derived.Test.YtgilcibfknafiaaGreatDoorQG0F
import Derived.Test.YtgilcibfknafiaaGreatDoorQG0T
import Derived.Test.YtgilcibfknafiaaGreatDoorQG0K
set_option linter.unusedVariables false
set_option linter.unusedSimpArgs false
set_option maxRecDepth 20000
set_option maxHeartbeats 40000000
namespace Go.AM
open Go Go.RowKit Go.Proofs
theorem ref02_Var_ev {i : Int} {r : Trm} (h : ref02_Var i = some r) : Ev Tryz.prog GL 91 [.d (.int .i64 i)] [] (.agg ((dTm r).map V.d)) [] := by
  refine evb pg Tryz.func91 rfl (by kernel_rfl) 5 [.cell 2 52] rfl rfl rfl (fun E ι0 => ?_)
  refine rg pg ?_
  refine rg pg ?_
  refine rt ?_
  obtain rfl := Option.some.inj h
  exact en rfl rfl
theorem tree_typeNodes_be (self : Typ → Option (Int × Bool)) (hs : ∀ {t : Typ} {r : Int × Bool}, self t = some r → Ev Tryz.prog GL 325 [.agg ((dTy t).map V.d)] [] (.tup [.d (.int .i64 r.1), .d (.bool r.2)]) []) {t : Typ} {r : Int × Bool} (h : tree_typeNodes_b self t = some r) : Ev Tryz.prog GL 325 [.agg ((dTy t).map V.d)] [] (.tup [.d (.int .i64 r.1), .d (.bool r.2)]) [] := by
  refine evb pg Tryz.func325 rfl (by kernel_rfl) 43 [.tmp 2, .tmp 3] rfl rfl rfl (fun E ι0 => ?_)
  refine rg pg ?_
  refine rg pg ?_
  refine join (fun x11 : Int => ⟨[(1, .ptr 1 0), (4, .d (.int .i64 x11))], [(1, some (.cells ((dTy t).map V.d) 34))], [1]⟩) (fun x11 => tree_typeNodes_k3 self t x11) r ?_ (fun x11 h => ?_)
  ·refine rg pg ?_
   refine bk ?_
   refine join (fun x4 : Bool => ⟨[(1, .ptr 1 0), (4, .d (.int .i64 0)), (11, .d (.int .i64 t.kind)), (12, .d (.bool x4))], [(1, some (.cells ((dTy t).map V.d) 34))], [1]⟩) (fun x4 => tree_typeNodes_k1 self t x4) r ?_ (fun x4 h => ?_)
   ·refine rg pg ?_
    refine cd h rfl (fun h hb1 => ?_) (fun h hb1 => ?_)
    ·refine sk ?_
     exact jt true h rfl rfl rfl
    ·refine rg pg ?_
     refine cd h rfl (fun h hb2 => ?_) (fun h hb2 => ?_)
     ·refine sk ?_
      exact jt true h rfl rfl rfl
     ·refine rl pg ?_
      exact jt (t.kind == 5) h rfl rfl rfl
   ·refine cd h rfl (fun h hb5 => ?_) (fun h hb5 => ?_)
    ·refine sk ?_
     exact jt 0 h rfl rfl rfl
    ·refine join (fun x8 : Bool => ⟨[(1, .ptr 1 0), (16, .d (.bool x8))], [(1, some (.cells ((dTy t).map V.d) 34))], [1]⟩) (fun x8 => tree_typeNodes_k2 self t x8) r ?_ (fun x8 h => ?_)
     ·refine rg pg ?_
      refine cd h rfl (fun h hb6 => ?_) (fun h hb6 => ?_)
      ·refine sk ?_
       exact jt true h rfl rfl rfl
      ·refine rl pg ?_
       exact jt (t.kind == 4) h rfl rfl rfl
     ·refine cd h rfl (fun h hb9 => ?_) (fun h hb9 => ?_)
      ·refine rl pg ?_
       exact jt 2 h rfl rfl rfl
      ·refine rg pg ?_
       refine rt ?_
       obtain rfl := Option.some.inj h
       exact en rfl rfl
  ·refine sq ?_
   refine rg pg ?_
   refine LenW.mk (dTys_len _) ?_
   refine cd h rfl (fun h hb12 => ?_) (fun h hb12 => ?_)
   ·refine rg pg ?_
    refine rt ?_
    obtain rfl := Option.some.inj h
    exact en rfl rfl
   ·refine sk ?_
    refine rg pg ?_
    refine sq ?_
    refine rg pg ?_
    refine LenW.mk (dTys_len _) ?_
    refine rangeK (X := Int) pg t.args _ rfl (fun x17 => [(5, .d (.int .i64 x17)), (25, .d (.slice (dTys t.args)))]) (fun x17 => []) [] h rfl rfl rfl rfl (fun _ => ⟨rfl, rfl⟩) 20 rfl (dTys_len _) (fun k14 i15 a13 x17 _ g16 h => ?_) (fun x17 h => ?_)
    ·refine rg pg ?_
     refine IdxW.mk (Int.natCast_nonneg _) (dTys_get g16) rfl ?_
     refine rg pg ?_
     obtain ⟨r27, h28, h⟩ := bndB h
     refine callW0 (hs h28) rfl ?_
     refine sq ?_
     refine rg pg ?_
     refine cd h rfl (fun h hb29 => ?_) (fun h hb29 => ?_)
     ·refine rg pg ?_
      refine rt ?_
      obtain rfl := Option.some.inj h
      exact en rfl rfl
     ·refine sk ?_
      refine rl pg ?_
      exact jt (w64 (x17 + r27.1)) h rfl rfl rfl
    ·refine rg pg ?_
     refine rt ?_
     obtain rfl := Option.some.inj h
     exact en rfl rfl
theorem tree_typeNodes_me : ∀ (m : Nat) {t : Typ} {r : Int × Bool}, tree_typeNodes_m m t = some r → Ev Tryz.prog GL 325 [.agg ((dTy t).map V.d)] [] (.tup [.d (.int .i64 r.1), .d (.bool r.2)]) []
  | 0, _, _, h => nomatch (show none = some _ from h)
  | m + 1, _, _, h => tree_typeNodes_be (tree_typeNodes_m m) (fun h => tree_typeNodes_me m h) h
theorem tree_typeNodes_ev {t : Typ} {r : Int × Bool} (h : tree_typeNodes t = some r) : Ev Tryz.prog GL 325 [.agg ((dTy t).map V.d)] [] (.tup [.d (.int .i64 r.1), .d (.bool r.2)]) [] := tree_typeNodes_me FU h
theorem tree_CheckType_ev {t : Typ} {r : Int × Int} (h : tree_CheckType t = some r) : Ev Tryz.prog GL 287 [.agg ((dTy t).map V.d)] [] (.tup [.d (.int .i64 r.1), .d (.int .i64 r.2)]) [] := by
  refine evb pg Tryz.func287 rfl (by kernel_rfl) 18 [.tmp 2, .tmp 3] rfl rfl rfl (fun E ι0 => ?_)
  refine rg pg ?_
  refine rg pg ?_
  obtain ⟨r1, h2, h⟩ := bndB h
  refine callW0 (tree_typeNodes_ev h2) rfl ?_
  refine sq ?_
  refine bk ?_
  refine rg pg ?_
  refine cd h rfl (fun h hb3 => ?_) (fun h hb3 => ?_)
  ·refine rg pg ?_
   refine rt ?_
   obtain rfl := Option.some.inj h
   exact en rfl rfl
  ·refine rg pg ?_
   refine cd h rfl (fun h hb4 => ?_) (fun h hb4 => ?_)
   ·refine rg pg ?_
    refine rt ?_
    obtain rfl := Option.some.inj h
    exact en rfl rfl
   ·refine sk ?_
    refine rg pg ?_
    refine rt ?_
    obtain rfl := Option.some.inj h
    exact en rfl rfl
theorem tree_NoType_ev {t : Typ} {r : Bool} (h : tree_NoType t = some r) : Ev Tryz.prog GL 288 [.agg ((dTy t).map V.d)] [] (.d (.bool r)) [] := by
  refine evb pg Tryz.func288 rfl (by kernel_rfl) 12 [.tmp 2] rfl rfl rfl (fun E ι0 => ?_)
  refine rg pg ?_
  refine rg pg ?_
  refine gwT h (fun h hb1 => ?_) (fun h hb1 => ?_)
  ·refine gl rfl ?_
   refine gl rfl ?_
   refine LenW.mk (dTys_len _) ?_
   refine gl rfl ?_
   refine rt ?_
   obtain rfl := Option.some.inj h
   exact en rfl rfl
  ·refine gf rfl ?_
   refine gf rfl ?_
   refine gf rfl ?_
   refine rt ?_
   obtain rfl := Option.some.inj h
   exact en rfl rfl
theorem tree_formed_ev {f : Frm} {r : Bool} (h : tree_formed f = some r) : Ev Tryz.prog GL 289 [.agg ((dFm f).map V.d)] [] (.d (.bool r)) [] := by
  refine evb pg Tryz.func289 rfl (by kernel_rfl) 45 [.tmp 2] rfl rfl rfl (fun E ι0 => ?_)
  refine rg pg ?_
  refine rg pg ?_
  refine join (fun x15 : Int × Int × Bool => ⟨[(1, .ptr 1 0), (3, .d (.int .i64 x15.1)), (4, .d (.int .i64 x15.2.1)), (5, .d (.bool x15.2.2))], [(1, some (.cells ((dFm f).map V.d) 45))], [1]⟩) (fun x15 => tree_formed_k3 f x15) r ?_ (fun x15 h => ?_)
  ·refine rg pg ?_
   refine bk ?_
   refine rg pg ?_
   refine cd h rfl (fun h hb1 => ?_) (fun h hb1 => ?_)
   ·refine rl pg ?_
    exact jt (2, 0, false) h rfl rfl rfl
   ·refine join (fun x4 : Bool => ⟨[(1, .ptr 1 0), (3, .d (.int .i64 0)), (5, .d (.bool false)), (9, .d (.int .i64 f.kind)), (12, .d (.bool x4))], [(1, some (.cells ((dFm f).map V.d) 45))], [1]⟩) (fun x4 => tree_formed_k1 f x4) r ?_ (fun x4 h => ?_)
    ·refine rg pg ?_
     refine cd h rfl (fun h hb2 => ?_) (fun h hb2 => ?_)
     ·refine sk ?_
      exact jt true h rfl rfl rfl
     ·refine rl pg ?_
      exact jt (f.kind == 3) h rfl rfl rfl
    ·refine cd h rfl (fun h hb5 => ?_) (fun h hb5 => ?_)
     ·refine rl pg ?_
      exact jt (0, 2, false) h rfl rfl rfl
     ·refine join (fun x10 : Bool => ⟨[(1, .ptr 1 0), (3, .d (.int .i64 0)), (15, .d (.bool x10))], [(1, some (.cells ((dFm f).map V.d) 45))], [1]⟩) (fun x10 => tree_formed_k2 f x10) r ?_ (fun x10 h => ?_)
      ·refine rg pg ?_
       refine cd h rfl (fun h hb6 => ?_) (fun h hb6 => ?_)
       ·refine sk ?_
        exact jt true h rfl rfl rfl
       ·refine rg pg ?_
        refine cd h rfl (fun h hb7 => ?_) (fun h hb7 => ?_)
        ·refine sk ?_
         exact jt true h rfl rfl rfl
        ·refine rg pg ?_
         refine cd h rfl (fun h hb8 => ?_) (fun h hb8 => ?_)
         ·refine sk ?_
          exact jt true h rfl rfl rfl
         ·refine rl pg ?_
          exact jt (f.kind == 7) h rfl rfl rfl
      ·refine cd h rfl (fun h hb11 => ?_) (fun h hb11 => ?_)
       ·refine rl pg ?_
        exact jt (0, 1, true) h rfl rfl rfl
       ·refine rg pg ?_
        refine rt ?_
        obtain rfl := Option.some.inj h
        exact en rfl rfl
  ·refine join (fun x23 : Unit => ⟨[(1, .ptr 1 0), (3, .d (.int .i64 x15.1)), (4, .d (.int .i64 x15.2.1))], [(1, some (.cells ((dFm f).map V.d) 45))], [1]⟩) (fun x23 => tree_formed_k4 f x15 x23) r ?_ (fun x23 h => ?_)
   ·refine rg pg ?_
    refine cd h rfl (fun h hb16 => ?_) (fun h hb16 => ?_)
    ·refine rg pg ?_
     obtain ⟨r17, h18, h⟩ := bndB h
     refine callW0 (tree_CheckType_ev h18) rfl ?_
     refine rg pg ?_
     refine cd h rfl (fun h hb19 => ?_) (fun h hb19 => ?_)
     ·refine rg pg ?_
      refine rt ?_
      obtain rfl := Option.some.inj h
      exact en rfl rfl
     ·refine sk ?_
      exact jt () h rfl rfl rfl
    ·refine rg pg ?_
     obtain ⟨r20, h21, h⟩ := bndB h
     refine callW0 (tree_NoType_ev h21) rfl ?_
     refine cd h rfl (fun h hb22 => ?_) (fun h hb22 => ?_)
     ·refine rg pg ?_
      refine rt ?_
      obtain rfl := Option.some.inj h
      exact en rfl rfl
     ·refine sk ?_
      exact jt () h rfl rfl rfl
   ·refine rg pg ?_
    refine LenW.mk (dTms_len _) ?_
    refine gwT h (fun h hb24 => ?_) (fun h hb24 => ?_)
    ·refine gl rfl ?_
     refine gl rfl ?_
     refine LenW.mk (dFms_len _) ?_
     refine gl rfl ?_
     refine gl rfl ?_
     refine rt ?_
     obtain rfl := Option.some.inj h
     exact en rfl rfl
    ·refine gf rfl ?_
     refine gf rfl ?_
     refine gf rfl ?_
     refine gf rfl ?_
     refine rt ?_
     obtain rfl := Option.some.inj h
     exact en rfl rfl
theorem tree_Arity_ev {kind : Int} {r : Int × Bool} (h : tree_Arity kind = some r) : Ev Tryz.prog GL 285 [.d (.int .i64 kind)] [] (.tup [.d (.int .i64 r.1), .d (.bool r.2)]) [] := by
  refine evb pg Tryz.func285 rfl (by kernel_rfl) 13 [.tmp 2, .tmp 3] rfl rfl rfl (fun E ι0 => ?_)
  refine rg pg ?_
  refine sq ?_
  refine rg pg ?_
  refine gwF h (fun h hb1 => ?_) (fun h hb1 => ?_)
  ·refine gf rfl ?_
   refine cdT rfl ?_
   refine rg pg ?_
   refine rt ?_
   obtain rfl := Option.some.inj h
   exact en rfl rfl
  ·refine gl rfl ?_
   refine cd h rfl (fun h hb2 => ?_) (fun h hb2 => ?_)
   ·refine rg pg ?_
    refine rt ?_
    obtain rfl := Option.some.inj h
    exact en rfl rfl
   ·refine sk ?_
    refine rg pg ?_
    obtain ⟨a3, p4, g5, h⟩ := idxB h
    refine ArrW.mk p4 (arI_get p4 g5).1 (arI_get p4 g5).2 rfl ?_
    refine rt ?_
    obtain rfl := Option.some.inj h
    exact en rfl rfl
theorem tree_Typed_ev {kind : Int} {r : Bool} (h : tree_Typed kind = some r) : Ev Tryz.prog GL 286 [.d (.int .i64 kind)] [] (.d (.bool r)) [] := by
  refine evb pg Tryz.func286 rfl (by kernel_rfl) 13 [.tmp 2] rfl rfl rfl (fun E ι0 => ?_)
  refine rg pg ?_
  refine rg pg ?_
  refine gwF h (fun h hb1 => ?_) (fun h hb1 => ?_)
  ·refine gf rfl ?_
   refine gf rfl ?_
   refine gf rfl ?_
   refine rt ?_
   obtain rfl := Option.some.inj h
   exact en rfl rfl
  ·refine gl rfl ?_
   refine gwF h (fun h hb2 => ?_) (fun h hb2 => ?_)
   ·refine gf rfl ?_
    refine rt ?_
    obtain rfl := Option.some.inj h
    exact en rfl rfl
   ·refine gl rfl ?_
    refine rt ?_
    obtain rfl := Option.some.inj h
    exact en rfl rfl
theorem tree_termNodes_be (self : Trm → Option (Int × Bool)) (hs : ∀ {t : Trm} {r : Int × Bool}, self t = some r → Ev Tryz.prog GL 225 [.agg ((dTm t).map V.d)] [] (.tup [.d (.int .i64 r.1), .d (.bool r.2)]) []) {t : Trm} {r : Int × Bool} (h : tree_termNodes_b self t = some r) : Ev Tryz.prog GL 225 [.agg ((dTm t).map V.d)] [] (.tup [.d (.int .i64 r.1), .d (.bool r.2)]) [] := by
  refine evb pg Tryz.func225 rfl (by kernel_rfl) 77 [.tmp 2, .tmp 3] rfl rfl rfl (fun E ι0 => ?_)
  refine rg pg ?_
  refine rg pg ?_
  obtain ⟨r1, h2, h⟩ := bndB h
  refine callW0 (tree_Arity_ev h2) rfl ?_
  refine join (fun x8 : Unit => ⟨[(1, .ptr 1 0)], [(1, some (.cells ((dTm t).map V.d) 52))], [1]⟩) (fun x8 => tree_termNodes_k1 self t x8) r ?_ (fun x8 h => ?_)
  ·refine rg pg ?_
   refine gwF h (fun h hb3 => ?_) (fun h hb3 => ?_)
   ·refine gf rfl ?_
    refine gf rfl ?_
    refine gf rfl ?_
    refine gf rfl ?_
    refine gf rfl ?_
    refine gf rfl ?_
    refine gf rfl ?_
    refine gf rfl ?_
    refine gf rfl ?_
    refine gf rfl ?_
    refine gf rfl ?_
    refine gf rfl ?_
    refine cdT rfl ?_
    refine rg pg ?_
    refine rt ?_
    obtain rfl := Option.some.inj h
    exact en rfl rfl
   ·refine gl rfl ?_
    refine gl rfl ?_
    refine LenW.mk (dTms_len _) ?_
    refine gl rfl ?_
    refine gl rfl ?_
    refine gwF h (fun h hb4 => ?_) (fun h hb4 => ?_)
    ·refine gf rfl ?_
     refine gf rfl ?_
     refine gf rfl ?_
     refine gf rfl ?_
     refine gf rfl ?_
     refine gf rfl ?_
     refine gf rfl ?_
     refine cdT rfl ?_
     refine rg pg ?_
     refine rt ?_
     obtain rfl := Option.some.inj h
     exact en rfl rfl
    ·refine gl rfl ?_
     refine gl rfl ?_
     refine gwF h (fun h hb5 => ?_) (fun h hb5 => ?_)
     ·refine gf rfl ?_
      refine gf rfl ?_
      refine gf rfl ?_
      refine gf rfl ?_
      refine cdT rfl ?_
      refine rg pg ?_
      refine rt ?_
      obtain rfl := Option.some.inj h
      exact en rfl rfl
     ·refine gl rfl ?_
      refine gl rfl ?_
      refine gl rfl ?_
      refine gwT h (fun h hb6 => ?_) (fun h hb6 => ?_)
      ·refine gl rfl ?_
       refine gl rfl ?_
       refine gl rfl ?_
       refine cd h rfl (fun h hb7 => ?_) (fun h hb7 => ?_)
       ·refine rg pg ?_
        refine rt ?_
        obtain rfl := Option.some.inj h
        exact en rfl rfl
       ·refine sk ?_
        exact jt () h rfl rfl rfl
      ·refine gf rfl ?_
       refine gf rfl ?_
       refine gl rfl ?_
       refine cdF rfl ?_
       refine sk ?_
       exact jt () h rfl rfl rfl
  ·refine join (fun x18 : Unit => ⟨[(1, .ptr 1 0)], [(1, some (.cells ((dTm t).map V.d) 52))], [1]⟩) (fun x18 => tree_termNodes_k2 self t x18) r ?_ (fun x18 h => ?_)
   ·refine rg pg ?_
    obtain ⟨r9, h10, h⟩ := bndB h
    refine callW0 (tree_Typed_ev h10) rfl ?_
    refine cd h rfl (fun h hb11 => ?_) (fun h hb11 => ?_)
    ·refine rg pg ?_
     obtain ⟨r12, h13, h⟩ := bndB h
     refine callW0 (tree_CheckType_ev h13) rfl ?_
     refine rg pg ?_
     refine cd h rfl (fun h hb14 => ?_) (fun h hb14 => ?_)
     ·refine rg pg ?_
      refine rt ?_
      obtain rfl := Option.some.inj h
      exact en rfl rfl
     ·refine sk ?_
      exact jt () h rfl rfl rfl
    ·refine rg pg ?_
     obtain ⟨r15, h16, h⟩ := bndB h
     refine callW0 (tree_NoType_ev h16) rfl ?_
     refine cd h rfl (fun h hb17 => ?_) (fun h hb17 => ?_)
     ·refine rg pg ?_
      refine rt ?_
      obtain rfl := Option.some.inj h
      exact en rfl rfl
     ·refine sk ?_
      exact jt () h rfl rfl rfl
   ·refine rg pg ?_
    refine sq ?_
    refine rg pg ?_
    refine LenW.mk (dTms_len _) ?_
    refine rangeK (X := Int) pg t.args _ rfl (fun x23 => [(8, .d (.int .i64 x23)), (59, .d (.slice (dTms t.args)))]) (fun x23 => []) [] h rfl rfl rfl rfl (fun _ => ⟨rfl, rfl⟩) 59 rfl (dTms_len _) (fun k20 i21 a19 x23 _ g22 h => ?_) (fun x23 h => ?_)
    ·refine rg pg ?_
     refine IdxW.mk (Int.natCast_nonneg _) (dTms_get g22) rfl ?_
     refine rg pg ?_
     obtain ⟨r33, h34, h⟩ := bndB h
     refine callW0 (hs h34) rfl ?_
     refine sq ?_
     refine rg pg ?_
     refine cd h rfl (fun h hb35 => ?_) (fun h hb35 => ?_)
     ·refine rg pg ?_
      refine rt ?_
      obtain rfl := Option.some.inj h
      exact en rfl rfl
     ·refine sk ?_
      refine rl pg ?_
      exact jt (w64 (x23 + r33.1)) h rfl rfl rfl
    ·refine rg pg ?_
     refine rt ?_
     obtain rfl := Option.some.inj h
     exact en rfl rfl
theorem tree_termNodes_me : ∀ (m : Nat) {t : Trm} {r : Int × Bool}, tree_termNodes_m m t = some r → Ev Tryz.prog GL 225 [.agg ((dTm t).map V.d)] [] (.tup [.d (.int .i64 r.1), .d (.bool r.2)]) []
  | 0, _, _, h => nomatch (show none = some _ from h)
  | m + 1, _, _, h => tree_termNodes_be (tree_termNodes_m m) (fun h => tree_termNodes_me m h) h
theorem tree_termNodes_ev {t : Trm} {r : Int × Bool} (h : tree_termNodes t = some r) : Ev Tryz.prog GL 225 [.agg ((dTm t).map V.d)] [] (.tup [.d (.int .i64 r.1), .d (.bool r.2)]) [] := tree_termNodes_me FU h
theorem tree_formulaNodes_be (self : Frm → Option (Int × Bool)) (hs : ∀ {f : Frm} {r : Int × Bool}, self f = some r → Ev Tryz.prog GL 227 [.agg ((dFm f).map V.d)] [] (.tup [.d (.int .i64 r.1), .d (.bool r.2)]) []) {f : Frm} {r : Int × Bool} (h : tree_formulaNodes_b self f = some r) : Ev Tryz.prog GL 227 [.agg ((dFm f).map V.d)] [] (.tup [.d (.int .i64 r.1), .d (.bool r.2)]) [] := by
  refine evb pg Tryz.func227 rfl (by kernel_rfl) 53 [.tmp 2, .tmp 3] rfl rfl rfl (fun E ι0 => ?_)
  refine rg pg ?_
  refine sq ?_
  refine rg pg ?_
  obtain ⟨r1, h2, h⟩ := bndB h
  refine callW0 (tree_formed_ev h2) rfl ?_
  refine cd h rfl (fun h hb3 => ?_) (fun h hb3 => ?_)
  ·refine rg pg ?_
   refine rt ?_
   obtain rfl := Option.some.inj h
   exact en rfl rfl
  ·refine sk ?_
   refine rg pg ?_
   refine sq ?_
   refine rg pg ?_
   refine LenW.mk (dTms_len _) ?_
   refine rangeK (X := Int) pg f.terms _ rfl (fun x8 => [(1, .ptr 1 0), (4, .d (.int .i64 x8)), (17, .d (.slice (dTms f.terms)))]) (fun x8 => [(1, some (.cells ((dFm f).map V.d) 45))]) [1] h rfl rfl rfl rfl (fun _ => ⟨rfl, rfl⟩) 17 rfl (dTms_len _) (fun k5 i6 a4 x8 _ g7 h => ?_) (fun x8 h => ?_)
   ·refine rg pg ?_
    refine IdxW.mk (Int.natCast_nonneg _) (dTms_get g7) rfl ?_
    refine rg pg ?_
    obtain ⟨r18, h19, h⟩ := bndB h
    refine callW0 (tree_termNodes_ev h19) rfl ?_
    refine sq ?_
    refine rg pg ?_
    refine cd h rfl (fun h hb20 => ?_) (fun h hb20 => ?_)
    ·refine rg pg ?_
     refine rt ?_
     obtain rfl := Option.some.inj h
     exact en rfl rfl
    ·refine sk ?_
     refine rl pg ?_
     exact jt (w64 (x8 + r18.1)) h rfl rfl rfl
   ·refine sq ?_
    refine rg pg ?_
    refine LenW.mk (dFms_len _) ?_
    refine rangeK (X := Int) pg f.args _ rfl (fun x27 => [(4, .d (.int .i64 x27)), (35, .d (.slice (dFms f.args)))]) (fun x27 => []) [] h rfl rfl rfl rfl (fun _ => ⟨rfl, rfl⟩) 35 rfl (dFms_len _) (fun k24 i25 a23 x27 _ g26 h => ?_) (fun x27 h => ?_)
    ·refine rg pg ?_
     refine IdxW.mk (Int.natCast_nonneg _) (dFms_get g26) rfl ?_
     refine rg pg ?_
     obtain ⟨r37, h38, h⟩ := bndB h
     refine callW0 (hs h38) rfl ?_
     refine sq ?_
     refine rg pg ?_
     refine cd h rfl (fun h hb39 => ?_) (fun h hb39 => ?_)
     ·refine rg pg ?_
      refine rt ?_
      obtain rfl := Option.some.inj h
      exact en rfl rfl
     ·refine sk ?_
      refine rl pg ?_
      exact jt (w64 (x27 + r37.1)) h rfl rfl rfl
    ·refine rg pg ?_
     refine rt ?_
     obtain rfl := Option.some.inj h
     exact en rfl rfl
theorem tree_formulaNodes_me : ∀ (m : Nat) {f : Frm} {r : Int × Bool}, tree_formulaNodes_m m f = some r → Ev Tryz.prog GL 227 [.agg ((dFm f).map V.d)] [] (.tup [.d (.int .i64 r.1), .d (.bool r.2)]) []
  | 0, _, _, h => nomatch (show none = some _ from h)
  | m + 1, _, _, h => tree_formulaNodes_be (tree_formulaNodes_m m) (fun h => tree_formulaNodes_me m h) h
theorem tree_formulaNodes_ev {f : Frm} {r : Int × Bool} (h : tree_formulaNodes f = some r) : Ev Tryz.prog GL 227 [.agg ((dFm f).map V.d)] [] (.tup [.d (.int .i64 r.1), .d (.bool r.2)]) [] := tree_formulaNodes_me FU h
theorem tree_CheckFormula_ev {f : Frm} {r : Int × Int} (h : tree_CheckFormula f = some r) : Ev Tryz.prog GL 120 [.agg ((dFm f).map V.d)] [] (.tup [.d (.int .i64 r.1), .d (.int .i64 r.2)]) [] := by
  refine evb pg Tryz.func120 rfl (by kernel_rfl) 18 [.tmp 2, .tmp 3] rfl rfl rfl (fun E ι0 => ?_)
  refine rg pg ?_
  refine rg pg ?_
  obtain ⟨r1, h2, h⟩ := bndB h
  refine callW0 (tree_formulaNodes_ev h2) rfl ?_
  refine sq ?_
  refine bk ?_
  refine rg pg ?_
  refine cd h rfl (fun h hb3 => ?_) (fun h hb3 => ?_)
  ·refine rg pg ?_
   refine rt ?_
   obtain rfl := Option.some.inj h
   exact en rfl rfl
  ·refine rg pg ?_
   refine cd h rfl (fun h hb4 => ?_) (fun h hb4 => ?_)
   ·refine rg pg ?_
    refine rt ?_
    obtain rfl := Option.some.inj h
    exact en rfl rfl
   ·refine sk ?_
    refine rg pg ?_
    refine rt ?_
    obtain rfl := Option.some.inj h
    exact en rfl rfl
theorem formula_Check_ev {f : Frm} {r : Int} (h : formula_Check f = some r) : Ev Tryz.prog GL 58 [.agg ((dFm f).map V.d)] [] (.d (.int .i64 r)) [] := by
  refine evb pg Tryz.func58 rfl (by kernel_rfl) 11 [.tmp 2] rfl rfl rfl (fun E ι0 => ?_)
  refine rg pg ?_
  refine rg pg ?_
  obtain ⟨r1, h2, h⟩ := bndB h
  refine callW0 (tree_CheckFormula_ev h2) rfl ?_
  refine rg pg ?_
  refine rt ?_
  obtain rfl := Option.some.inj h
  exact en rfl rfl
theorem formula_Uses_1_1_22b_ev {index : Int} {below : Int} {o0 : Int} {o2 : List (Int × Bool)} {r : (List (Int × Bool))} (h : formula_Uses_1_1_22b index below o0 o2 = some r) : Ev Tryz.prog GL 175 [.d (.int .i64 index), .d (.int .i64 below), .ptr 1000 0, .ptr 1001 0] [(1000, .cells [.d (.int .i64 o0)] 3), (1001, .cells [.map 1002] 49), (1002, .map ⟨1, dMap kI vB o2⟩)] (.tup []) [(1000, .cells [.d (.int .i64 o0)] 3), (1001, .cells [.map 1002] 49), (1002, .map ⟨1, dMap kI vB r⟩)] := by
  refine evb pg Tryz.func175 rfl (by kernel_rfl) 16 [] rfl rfl rfl (fun E ι0 => ?_)
  refine rg pg ?_
  refine rg pg ?_
  refine cd h rfl (fun h hb1 => ?_) (fun h hb1 => ?_)
  ·refine rl pg ?_
   refine MSetW.mk (dMap_set (ev := vB) beI o2 (w64 ((w64 (index - below)) - o0)) true) ?_
   obtain rfl := Option.some.inj h
   exact enN rfl rfl
  ·refine sk ?_
   obtain rfl := Option.some.inj h
   exact enN rfl rfl
theorem tree_Each_1_76a_be (self : Trm → Int → Int → (List (Int × Bool)) → Option ((List (Int × Bool)))) (hs : ∀ {t : Trm} {below : Int} {o2 : Int} {o4 : List (Int × Bool)} {r : (List (Int × Bool))}, self t below o2 o4 = some r → Ev Tryz.prog GL 238 [.agg ((dTm t).map V.d), .d (.int .i64 below), .ptr 1000 0, .ptr 1001 0] [(1000, .cells [.clo 175 [.ptr 1002 0, .ptr 1003 0]] 151), (1001, .cells [.clo 238 [.ptr 1000 0, .ptr 1001 0]] 116), (1002, .cells [.d (.int .i64 o2)] 3), (1003, .cells [.map 1004] 49), (1004, .map ⟨1, dMap kI vB o4⟩)] (.tup []) [(1000, .cells [.clo 175 [.ptr 1002 0, .ptr 1003 0]] 151), (1001, .cells [.clo 238 [.ptr 1000 0, .ptr 1001 0]] 116), (1002, .cells [.d (.int .i64 o2)] 3), (1003, .cells [.map 1004] 49), (1004, .map ⟨1, dMap kI vB r⟩)]) {t : Trm} {below : Int} {o2 : Int} {o4 : List (Int × Bool)} {r : (List (Int × Bool))} (h : tree_Each_1_76a_b self t below o2 o4 = some r) : Ev Tryz.prog GL 238 [.agg ((dTm t).map V.d), .d (.int .i64 below), .ptr 1000 0, .ptr 1001 0] [(1000, .cells [.clo 175 [.ptr 1002 0, .ptr 1003 0]] 151), (1001, .cells [.clo 238 [.ptr 1000 0, .ptr 1001 0]] 116), (1002, .cells [.d (.int .i64 o2)] 3), (1003, .cells [.map 1004] 49), (1004, .map ⟨1, dMap kI vB o4⟩)] (.tup []) [(1000, .cells [.clo 175 [.ptr 1002 0, .ptr 1003 0]] 151), (1001, .cells [.clo 238 [.ptr 1000 0, .ptr 1001 0]] 116), (1002, .cells [.d (.int .i64 o2)] 3), (1003, .cells [.map 1004] 49), (1004, .map ⟨1, dMap kI vB r⟩)] := by
  refine evb pg Tryz.func238 rfl (by kernel_rfl) 33 [] rfl rfl rfl (fun E ι0 => ?_)
  refine rg pg ?_
  refine join (fun x5 : (List (Int × Bool)) => ⟨[(1, .d (.int .i64 below)), (3, .ptr 1001 0), (4, .ptr 4 0)], [(1001, some (.cells [.clo 238 [.ptr 1000 0, .ptr 1001 0]] 116)), (4, some (.cells ((dTm t).map V.d) 52)), (1000, some (.cells [.clo 175 [.ptr 1002 0, .ptr 1003 0]] 151)), (1002, some (.cells [.d (.int .i64 o2)] 3)), (1003, some (.cells [.map 1004] 49)), (1004, some (.map ⟨1, dMap kI vB x5⟩))], [1001, 4, 1000, 1002, 1003, 1004]⟩) (fun x5 => tree_Each_1_76a_k1 self t below o2 x5) r ?_ (fun x5 h => ?_)
  ·refine rg pg ?_
   refine cd h rfl (fun h hb1 => ?_) (fun h hb1 => ?_)
   ·refine rl pg ?_
    obtain ⟨r2, h3, h⟩ := bndB h
    refine callW [(1000, 1002), (1001, 1003), (1002, 1004)] (formula_Uses_1_1_22b_ev h3) rfl rfl rfl rfl rfl ?_
    exact jt r2 h rfl rfl rfl
   ·refine sk ?_
    exact jt o4 h rfl rfl rfl
  ·refine join (fun x8 : Int => ⟨[(1, .d (.int .i64 x8)), (3, .ptr 1001 0), (4, .ptr 4 0)], [(1001, some (.cells [.clo 238 [.ptr 1000 0, .ptr 1001 0]] 116)), (4, some (.cells ((dTm t).map V.d) 52)), (1000, some (.cells [.clo 175 [.ptr 1002 0, .ptr 1003 0]] 151)), (1002, some (.cells [.d (.int .i64 o2)] 3)), (1003, some (.cells [.map 1004] 49)), (1004, some (.map ⟨1, dMap kI vB x5⟩))], [1001, 4, 1000, 1002, 1003, 1004]⟩) (fun x8 => tree_Each_1_76a_k2 self t o2 x5 x8) r ?_ (fun x8 h => ?_)
   ·refine rg pg ?_
    refine cd h rfl (fun h hb6 => ?_) (fun h hb6 => ?_)
    ·refine rl pg ?_
     exact jt (w64 (below + 1)) h rfl rfl rfl
    ·refine sk ?_
     exact jt below h rfl rfl rfl
   ·refine rg pg ?_
    refine LenW.mk (dTms_len _) ?_
    refine rangeK (X := (List (Int × Bool))) pg t.args _ rfl (fun x13 => [(1, .d (.int .i64 x8)), (3, .ptr 1001 0), (22, .d (.slice (dTms t.args)))]) (fun x13 => [(1001, some (.cells [.clo 238 [.ptr 1000 0, .ptr 1001 0]] 116)), (1000, some (.cells [.clo 175 [.ptr 1002 0, .ptr 1003 0]] 151)), (1002, some (.cells [.d (.int .i64 o2)] 3)), (1003, some (.cells [.map 1004] 49)), (1004, some (.map ⟨1, dMap kI vB x13⟩))]) [1001, 1000, 1002, 1003, 1004] h rfl rfl rfl rfl (fun _ => ⟨rfl, rfl⟩) 22 rfl (dTms_len _) (fun k10 i11 a9 x13 _ g12 h => ?_) (fun x13 h => ?_)
    ·refine rg pg ?_
     refine IdxW.mk (Int.natCast_nonneg _) (dTms_get g12) rfl ?_
     refine rl pg ?_
     obtain ⟨r21, h22, h⟩ := bndB h
     refine callW [(1000, 1000), (1001, 1001), (1002, 1002), (1003, 1003), (1004, 1004)] (hs h22) rfl rfl rfl rfl rfl ?_
     exact jt r21 h rfl rfl rfl
    ·obtain rfl := Option.some.inj h
     exact enN rfl rfl
theorem tree_Each_1_76a_me : ∀ (m : Nat) {t : Trm} {below : Int} {o2 : Int} {o4 : List (Int × Bool)} {r : (List (Int × Bool))}, tree_Each_1_76a_m m t below o2 o4 = some r → Ev Tryz.prog GL 238 [.agg ((dTm t).map V.d), .d (.int .i64 below), .ptr 1000 0, .ptr 1001 0] [(1000, .cells [.clo 175 [.ptr 1002 0, .ptr 1003 0]] 151), (1001, .cells [.clo 238 [.ptr 1000 0, .ptr 1001 0]] 116), (1002, .cells [.d (.int .i64 o2)] 3), (1003, .cells [.map 1004] 49), (1004, .map ⟨1, dMap kI vB o4⟩)] (.tup []) [(1000, .cells [.clo 175 [.ptr 1002 0, .ptr 1003 0]] 151), (1001, .cells [.clo 238 [.ptr 1000 0, .ptr 1001 0]] 116), (1002, .cells [.d (.int .i64 o2)] 3), (1003, .cells [.map 1004] 49), (1004, .map ⟨1, dMap kI vB r⟩)]
  | 0, _, _, _, _, _, h => nomatch (show none = some _ from h)
  | m + 1, _, _, _, _, _, h => tree_Each_1_76a_be (tree_Each_1_76a_m m) (fun h => tree_Each_1_76a_me m h) h
theorem tree_Each_1_76a_ev {t : Trm} {below : Int} {o2 : Int} {o4 : List (Int × Bool)} {r : (List (Int × Bool))} (h : tree_Each_1_76a t below o2 o4 = some r) : Ev Tryz.prog GL 238 [.agg ((dTm t).map V.d), .d (.int .i64 below), .ptr 1000 0, .ptr 1001 0] [(1000, .cells [.clo 175 [.ptr 1002 0, .ptr 1003 0]] 151), (1001, .cells [.clo 238 [.ptr 1000 0, .ptr 1001 0]] 116), (1002, .cells [.d (.int .i64 o2)] 3), (1003, .cells [.map 1004] 49), (1004, .map ⟨1, dMap kI vB o4⟩)] (.tup []) [(1000, .cells [.clo 175 [.ptr 1002 0, .ptr 1003 0]] 151), (1001, .cells [.clo 238 [.ptr 1000 0, .ptr 1001 0]] 116), (1002, .cells [.d (.int .i64 o2)] 3), (1003, .cells [.map 1004] 49), (1004, .map ⟨1, dMap kI vB r⟩)] := tree_Each_1_76a_me FU h
theorem tree_Each_a42_ev {t : Trm} {o0 : Int} {o2 : List (Int × Bool)} {r : (List (Int × Bool))} (h : tree_Each_a42 t o0 o2 = some r) : Ev Tryz.prog GL 142 [.agg ((dTm t).map V.d), .clo 175 [.ptr 1000 0, .ptr 1001 0]] [(1000, .cells [.d (.int .i64 o0)] 3), (1001, .cells [.map 1002] 49), (1002, .map ⟨1, dMap kI vB o2⟩)] (.tup []) [(1000, .cells [.d (.int .i64 o0)] 3), (1001, .cells [.map 1002] 49), (1002, .map ⟨1, dMap kI vB r⟩)] := by
  refine evb pg Tryz.func142 rfl (by kernel_rfl) 9 [] rfl rfl rfl (fun E ι0 => ?_)
  refine rg pg ?_
  refine rg pg ?_
  refine rg pg ?_
  refine rl pg ?_
  obtain ⟨r1, h2, h⟩ := bndB h
  refine callW [(1000, 3), (1001, 4), (1002, 1000), (1003, 1001), (1004, 1002)] (tree_Each_1_76a_ev h2) rfl rfl rfl rfl rfl ?_
  obtain rfl := Option.some.inj h
  exact enN rfl rfl
theorem formula_Uses_1_231_ev {t : Trm} {above : Int} {o1 : List (Int × Bool)} {r : (List (Int × Bool))} (h : formula_Uses_1_231 t above o1 = some r) : Ev Tryz.prog GL 174 [.agg ((dTm t).map V.d), .d (.int .i64 above), .ptr 1000 0] [(1000, .cells [.map 1001] 49), (1001, .map ⟨1, dMap kI vB o1⟩)] (.tup []) [(1000, .cells [.map 1001] 49), (1001, .map ⟨1, dMap kI vB r⟩)] := by
  refine evb pg Tryz.func174 rfl (by kernel_rfl) 8 [] rfl rfl rfl (fun E ι0 => ?_)
  refine rg pg ?_
  refine rl pg ?_
  obtain ⟨r1, h2, h⟩ := bndB h
  refine callW [(1000, 4), (1001, 1000), (1002, 1001)] (tree_Each_a42_ev h2) rfl rfl rfl rfl rfl ?_
  obtain rfl := Option.some.inj h
  exact enN rfl rfl
theorem tree_Quantifier_ev {kind : Int} {r : Bool} (h : tree_Quantifier kind = some r) : Ev Tryz.prog GL 239 [.d (.int .i64 kind)] [] (.d (.bool r)) [] := by
  refine evb pg Tryz.func239 rfl (by kernel_rfl) 9 [.tmp 2] rfl rfl rfl (fun E ι0 => ?_)
  refine rg pg ?_
  refine rg pg ?_
  refine gwT h (fun h hb1 => ?_) (fun h hb1 => ?_)
  ·refine gl rfl ?_
   refine rt ?_
   obtain rfl := Option.some.inj h
   exact en rfl rfl
  ·refine gf rfl ?_
   refine rt ?_
   obtain rfl := Option.some.inj h
   exact en rfl rfl
theorem tree_EachTerm_8f9_be (self : Frm → Int → (List (Int × Bool)) → Option ((List (Int × Bool)))) (hs : ∀ {f : Frm} {below : Int} {o1 : List (Int × Bool)} {r : (List (Int × Bool))}, self f below o1 = some r → Ev Tryz.prog GL 145 [.agg ((dFm f).map V.d), .d (.int .i64 below), .clo 174 [.ptr 1000 0]] [(1000, .cells [.map 1001] 49), (1001, .map ⟨1, dMap kI vB o1⟩)] (.tup []) [(1000, .cells [.map 1001] 49), (1001, .map ⟨1, dMap kI vB r⟩)]) {f : Frm} {below : Int} {o1 : List (Int × Bool)} {r : (List (Int × Bool))} (h : tree_EachTerm_8f9_b self f below o1 = some r) : Ev Tryz.prog GL 145 [.agg ((dFm f).map V.d), .d (.int .i64 below), .clo 174 [.ptr 1000 0]] [(1000, .cells [.map 1001] 49), (1001, .map ⟨1, dMap kI vB o1⟩)] (.tup []) [(1000, .cells [.map 1001] 49), (1001, .map ⟨1, dMap kI vB r⟩)] := by
  refine evb pg Tryz.func145 rfl (by kernel_rfl) 39 [] rfl rfl rfl (fun E ι0 => ?_)
  refine rg pg ?_
  refine sq ?_
  refine rg pg ?_
  refine LenW.mk (dTms_len _) ?_
  refine rangeK (X := (List (Int × Bool))) pg f.terms _ rfl (fun x5 => [(1, .d (.int .i64 below)), (2, .clo 174 [.ptr 1000 0]), (3, .ptr 3 0), (11, .d (.slice (dTms f.terms)))]) (fun x5 => [(3, some (.cells ((dFm f).map V.d) 45)), (1000, some (.cells [.map 1001] 49)), (1001, some (.map ⟨1, dMap kI vB x5⟩))]) [3, 1000, 1001] h rfl rfl rfl rfl (fun _ => ⟨rfl, rfl⟩) 11 rfl (dTms_len _) (fun k2 i3 a1 x5 _ g4 h => ?_) (fun x5 h => ?_)
  ·refine rg pg ?_
   refine IdxW.mk (Int.natCast_nonneg _) (dTms_get g4) rfl ?_
   refine rl pg ?_
   obtain ⟨r13, h14, h⟩ := bndB h
   refine callW [(1000, 1000), (1001, 1001)] (formula_Uses_1_231_ev h14) rfl rfl rfl rfl rfl ?_
   exact jt r13 h rfl rfl rfl
  ·refine join (fun x21 : Int => ⟨[(1, .d (.int .i64 x21)), (2, .clo 174 [.ptr 1000 0]), (3, .ptr 3 0)], [(3, some (.cells ((dFm f).map V.d) 45)), (1000, some (.cells [.map 1001] 49)), (1001, some (.map ⟨1, dMap kI vB x5⟩))], [3, 1000, 1001]⟩) (fun x21 => tree_EachTerm_8f9_k1 self f x5 x21) r ?_ (fun x21 h => ?_)
   ·refine rg pg ?_
    obtain ⟨r17, h18, h⟩ := bndB h
    refine callW0 (tree_Quantifier_ev h18) rfl ?_
    refine cd h rfl (fun h hb19 => ?_) (fun h hb19 => ?_)
    ·refine rl pg ?_
     exact jt (w64 (below + 1)) h rfl rfl rfl
    ·refine sk ?_
     exact jt below h rfl rfl rfl
   ·refine rg pg ?_
    refine LenW.mk (dFms_len _) ?_
    refine rangeK (X := (List (Int × Bool))) pg f.args _ rfl (fun x26 => [(1, .d (.int .i64 x21)), (2, .clo 174 [.ptr 1000 0]), (28, .d (.slice (dFms f.args)))]) (fun x26 => [(1000, some (.cells [.map 1001] 49)), (1001, some (.map ⟨1, dMap kI vB x26⟩))]) [1000, 1001] h rfl rfl rfl rfl (fun _ => ⟨rfl, rfl⟩) 28 rfl (dFms_len _) (fun k23 i24 a22 x26 _ g25 h => ?_) (fun x26 h => ?_)
    ·refine rg pg ?_
     refine IdxW.mk (Int.natCast_nonneg _) (dFms_get g25) rfl ?_
     refine rl pg ?_
     obtain ⟨r34, h35, h⟩ := bndB h
     refine callW [(1000, 1000), (1001, 1001)] (hs h35) rfl rfl rfl rfl rfl ?_
     exact jt r34 h rfl rfl rfl
    ·obtain rfl := Option.some.inj h
     exact enN rfl rfl
theorem tree_EachTerm_8f9_me : ∀ (m : Nat) {f : Frm} {below : Int} {o1 : List (Int × Bool)} {r : (List (Int × Bool))}, tree_EachTerm_8f9_m m f below o1 = some r → Ev Tryz.prog GL 145 [.agg ((dFm f).map V.d), .d (.int .i64 below), .clo 174 [.ptr 1000 0]] [(1000, .cells [.map 1001] 49), (1001, .map ⟨1, dMap kI vB o1⟩)] (.tup []) [(1000, .cells [.map 1001] 49), (1001, .map ⟨1, dMap kI vB r⟩)]
  | 0, _, _, _, _, h => nomatch (show none = some _ from h)
  | m + 1, _, _, _, _, h => tree_EachTerm_8f9_be (tree_EachTerm_8f9_m m) (fun h => tree_EachTerm_8f9_me m h) h
theorem tree_EachTerm_8f9_ev {f : Frm} {below : Int} {o1 : List (Int × Bool)} {r : (List (Int × Bool))} (h : tree_EachTerm_8f9 f below o1 = some r) : Ev Tryz.prog GL 145 [.agg ((dFm f).map V.d), .d (.int .i64 below), .clo 174 [.ptr 1000 0]] [(1000, .cells [.map 1001] 49), (1001, .map ⟨1, dMap kI vB o1⟩)] (.tup []) [(1000, .cells [.map 1001] 49), (1001, .map ⟨1, dMap kI vB r⟩)] := tree_EachTerm_8f9_me FU h
theorem maps_Keys_map_int_bool_int_bool_d9f_ev {o0 : List (Int × Bool)} {r : Unit} (h : maps_Keys_map_int_bool_int_bool_d9f o0 = some r) : Ev Tryz.prog GL 177 [.map 1000] [(1000, .map ⟨1, dMap kI vB o0⟩)] (.clo 261 [.ptr 1 0]) [(1000, .map ⟨1, dMap kI vB o0⟩), (1, .cells [.map 1000] 49)] := by
  refine evb pg Tryz.func177 rfl (by kernel_rfl) 4 [.tmp 2] rfl rfl rfl (fun E ι0 => ?_)
  refine rg pg ?_
  refine rg pg ?_
  refine rt ?_
  obtain rfl := Option.some.inj h
  exact en rfl rfl
theorem slices_Sorted_225_ev {o1 : List (Int × Bool)} {r : List Int} (h : slices_Sorted_225 o1 = some r) : Ev Tryz.prog GL 176 [.clo 261 [.ptr 1000 0]] [(1000, .cells [.map 1001] 49), (1001, .map ⟨1, dMap kI vB o1⟩)] (.d (.slice (dInts r))) [(1000, .cells [.map 1001] 49), (1001, .map ⟨1, dMap kI vB o1⟩)] := sortedKeysI_ev ⟨_, _, Tryz.func176, rfl, by kernel_rfl⟩ rfl KEYS176 h
theorem formula_Uses_ev {f : Frm} {r : List Int × Int} (h : formula_Uses f = some r) : Ev Tryz.prog GL 55 [.agg ((dFm f).map V.d)] [] (.tup [.d (.slice (dInts r.1)), .d (.int .i64 r.2)]) [] := by
  refine evb pg Tryz.func55 rfl (by kernel_rfl) 18 [.tmp 2, .tmp 3] rfl rfl rfl (fun E ι0 => ?_)
  refine rg pg ?_
  refine sq ?_
  refine rg pg ?_
  obtain ⟨r1, h2, h⟩ := bndB h
  refine callW0 (formula_Check_ev h2) rfl ?_
  refine rg pg ?_
  refine cd h rfl (fun h hb3 => ?_) (fun h hb3 => ?_)
  ·refine rg pg ?_
   refine rt ?_
   obtain rfl := Option.some.inj h
   exact en rfl rfl
  ·refine sk ?_
   refine rg pg ?_
   refine rg pg ?_
   obtain ⟨r4, h5, h⟩ := bndB h
   refine callW [(1000, 5), (1001, 11)] (tree_EachTerm_8f9_ev h5) rfl rfl rfl rfl rfl ?_
   refine rg pg ?_
   obtain ⟨r6, h7, h⟩ := bndB h
   refine callW [(1, 10016), (1000, 11)] (maps_Keys_map_int_bool_int_bool_d9f_ev h7) rfl rfl rfl rfl rfl ?_
   obtain ⟨r8, h9, h⟩ := bndB h
   refine callW [(1000, 10016), (1001, 11)] (slices_Sorted_225_ev h9) rfl rfl rfl rfl rfl ?_
   refine rt ?_
   obtain rfl := Option.some.inj h
   exact en rfl rfl
theorem tree_Of_ev {kind : Int} {args : List Trm} {r : Trm} (h : tree_Of kind args = some r) : Ev Tryz.prog GL 165 [.d (.int .i64 kind), .d (.slice (dTms args))] [] (.agg ((dTm r).map V.d)) [] := by
  refine evb pg Tryz.func165 rfl (by kernel_rfl) 8 [.cell 4 52] rfl rfl rfl (fun E ι0 => ?_)
  refine rg pg ?_
  refine rg pg ?_
  refine rt ?_
  obtain rfl := Option.some.inj h
  exact en rfl rfl
theorem tree_Equation_ev {a : Trm} {b : Trm} {r : Frm} (h : tree_Equation a b = some r) : Ev Tryz.prog GL 163 [.agg ((dTm a).map V.d), .agg ((dTm b).map V.d)] [] (.agg ((dFm r).map V.d)) [] := by
  refine evb pg Tryz.func163 rfl (by kernel_rfl) 9 [.cell 4 45] rfl rfl rfl (fun E ι0 => ?_)
  refine rg pg ?_
  refine rg pg ?_
  refine Ask.mk ⟨rfl, rfl⟩ (BsW.mk (dTms_map [a, b]).symm (dTms_sz _) ?_)
  refine rt ?_
  obtain rfl := Option.some.inj h
  exact en rfl rfl
theorem tree_False_ev {_u : Unit} {r : Frm} (h : tree_False _u = some r) : Ev Tryz.prog GL 244 [] [] (.agg ((dFm r).map V.d)) [] := by
  refine evb pg Tryz.func244 rfl (by kernel_rfl) 6 [.cell 0 45] rfl rfl rfl (fun E ι0 => ?_)
  refine rg pg ?_
  refine rg pg ?_
  obtain ⟨r1, h2, h⟩ := bndB h
  refine callW0 (tree_Of_ev h2) rfl ?_
  obtain ⟨r3, h4, h⟩ := bndB h
  refine callW0 (tree_Of_ev h4) rfl ?_
  refine Ask.mk ⟨rfl, rfl⟩ (BsW.mk (dTms_map [r3]).symm (dTms_sz _) ?_)
  obtain ⟨r5, h6, h⟩ := bndB h
  refine callW0 (tree_Of_ev h6) rfl ?_
  obtain ⟨r7, h8, h⟩ := bndB h
  refine callW0 (tree_Equation_ev h8) rfl ?_
  refine rt ?_
  obtain rfl := Option.some.inj h
  exact en rfl rfl
theorem formula_False_ev {_u : Unit} {r : Frm} (h : formula_False _u = some r) : Ev Tryz.prog GL 149 [] [] (.agg ((dFm r).map V.d)) [] := by
  refine evb pg Tryz.func149 rfl (by kernel_rfl) 2 [.cell 0 45] rfl rfl rfl (fun E ι0 => ?_)
  refine rg pg ?_
  refine rg pg ?_
  obtain ⟨r1, h2, h⟩ := bndB h
  refine callW0 (tree_False_ev h2) rfl ?_
  refine rt ?_
  obtain rfl := Option.some.inj h
  exact en rfl rfl
theorem ref01_Copy_be (self : Typ → Option (Typ)) (hs : ∀ {t : Typ} {r : Typ}, self t = some r → Ev Tryz.prog GL 209 [.agg ((dTy t).map V.d)] [] (.agg ((dTy r).map V.d)) []) {t : Typ} {r : Typ} (h : ref01_Copy_b self t = some r) : Ev Tryz.prog GL 209 [.agg ((dTy t).map V.d)] [] (.agg ((dTy r).map V.d)) [] := by
  refine evb pg Tryz.func209 rfl (by kernel_rfl) 23 [.cell 2 34] rfl rfl rfl (fun E ι0 => ?_)
  refine rg pg ?_
  refine rg pg ?_
  refine sq ?_
  refine rg pg ?_
  refine LenW.mk (dTys_len _) ?_
  refine wrN 201 3 2 34 rfl rfl ?_
  refine rangeK (X := List Typ) pg t.args _ rfl (fun x5 => [(1, .ptr 1 0), (2, .ptr 2 0), (3, .own (dTys x5) 201), (7, .d (.slice (dTys t.args)))]) (fun x5 => [(1, some (.cells ((dTy t).map V.d) 34)), (2, some (.cells [.d (.int .i64 0), .d .nils] 34)), (201, some (.row (dTys x5).length 2 34))]) [1, 2, 201] h rfl rfl rfl rfl (fun _ => ⟨rfl, rfl⟩) 7 rfl (dTys_len _) (fun k2 i3 a1 x5 _ g4 h => ?_) (fun x5 h => ?_)
  ·refine rg pg ?_
   refine IdxW.mk (Int.natCast_nonneg _) (dTys_get g4) rfl ?_
   refine rl pg ?_
   obtain ⟨r18, h19, h⟩ := bndB h
   refine callW0 (hs h19) rfl ?_
   refine Ask.mk ⟨rfl, rfl⟩ (BsW.mk (dTys_map [r18]).symm (dTys_sz _) ?_)
   obtain ⟨p20, h⟩ := gdB h
   refine Ask.mk ⟨rfl, rfl, rfl⟩ (AppW.mk (dTys_app _ _) (dTys_sz _) (dTys_sz _) (by rw [dTys_len, dTys_len]; exact p20) ?_)
   exact jt (x5 ++ [r18]) h rfl rfl rfl
  ·refine rg pg ?_
   refine rt ?_
   obtain rfl := Option.some.inj h
   exact en rfl rfl
theorem ref01_Copy_me : ∀ (m : Nat) {t : Typ} {r : Typ}, ref01_Copy_m m t = some r → Ev Tryz.prog GL 209 [.agg ((dTy t).map V.d)] [] (.agg ((dTy r).map V.d)) []
  | 0, _, _, h => nomatch (show none = some _ from h)
  | m + 1, _, _, h => ref01_Copy_be (ref01_Copy_m m) (fun h => ref01_Copy_me m h) h
theorem ref01_Copy_ev {t : Typ} {r : Typ} (h : ref01_Copy t = some r) : Ev Tryz.prog GL 209 [.agg ((dTy t).map V.d)] [] (.agg ((dTy r).map V.d)) [] := ref01_Copy_me FU h
theorem ref02_Copy_be (self : Trm → Option (Trm)) (hs : ∀ {t : Trm} {r : Trm}, self t = some r → Ev Tryz.prog GL 210 [.agg ((dTm t).map V.d)] [] (.agg ((dTm r).map V.d)) []) {t : Trm} {r : Trm} (h : ref02_Copy_b self t = some r) : Ev Tryz.prog GL 210 [.agg ((dTm t).map V.d)] [] (.agg ((dTm r).map V.d)) [] := by
  refine evb pg Tryz.func210 rfl (by kernel_rfl) 28 [.cell 2 52] rfl rfl rfl (fun E ι0 => ?_)
  refine rg pg ?_
  refine rg pg ?_
  refine sq ?_
  refine rg pg ?_
  refine LenW.mk (dTms_len _) ?_
  refine wrN 201 3 5 52 rfl rfl ?_
  refine rangeK (X := List Trm) pg t.args _ rfl (fun x5 => [(1, .ptr 1 0), (2, .ptr 2 0), (3, .own (dTms x5) 201), (7, .d (.slice (dTms t.args)))]) (fun x5 => [(1, some (.cells ((dTm t).map V.d) 52)), (2, some (.cells [.d (.int .i64 0), .d (.int .i64 0), .d (.int .i64 0), .d .nils, .d .nils] 52)), (201, some (.row (dTms x5).length 5 52))]) [1, 2, 201] h rfl rfl rfl rfl (fun _ => ⟨rfl, rfl⟩) 7 rfl (dTms_len _) (fun k2 i3 a1 x5 _ g4 h => ?_) (fun x5 h => ?_)
  ·refine rg pg ?_
   refine IdxW.mk (Int.natCast_nonneg _) (dTms_get g4) rfl ?_
   refine rl pg ?_
   obtain ⟨r18, h19, h⟩ := bndB h
   refine callW0 (hs h19) rfl ?_
   refine Ask.mk ⟨rfl, rfl⟩ (BsW.mk (dTms_map [r18]).symm (dTms_sz _) ?_)
   obtain ⟨p20, h⟩ := gdB h
   refine Ask.mk ⟨rfl, rfl, rfl⟩ (AppW.mk (dTms_app _ _) (dTms_sz _) (dTms_sz _) (by rw [dTms_len, dTms_len]; exact p20) ?_)
   exact jt (x5 ++ [r18]) h rfl rfl rfl
  ·refine rgd pg ?_
   obtain ⟨r23, h24, h⟩ := bndB h
   refine callW0 (ref01_Copy_ev h24) rfl ?_
   refine Ask.mk (by kernel_rfl) ?_
   refine rt ?_
   obtain rfl := Option.some.inj h
   exact en rfl rfl
theorem ref02_Copy_me : ∀ (m : Nat) {t : Trm} {r : Trm}, ref02_Copy_m m t = some r → Ev Tryz.prog GL 210 [.agg ((dTm t).map V.d)] [] (.agg ((dTm r).map V.d)) []
  | 0, _, _, h => nomatch (show none = some _ from h)
  | m + 1, _, _, h => ref02_Copy_be (ref02_Copy_m m) (fun h => ref02_Copy_me m h) h
theorem ref02_Copy_ev {t : Trm} {r : Trm} (h : ref02_Copy t = some r) : Ev Tryz.prog GL 210 [.agg ((dTm t).map V.d)] [] (.agg ((dTm r).map V.d)) [] := ref02_Copy_me FU h
theorem ref02_N_ev {kind : Int} {l : List Trm} {r : Trm} (h : ref02_N kind l = some r) : Ev Tryz.prog GL 106 [.d (.int .i64 kind), .d (.slice (dTms l))] [] (.agg ((dTm r).map V.d)) [] := by
  refine evb pg Tryz.func106 rfl (by kernel_rfl) 23 [.cell 4 52] rfl rfl rfl (fun E ι0 => ?_)
  refine rg pg ?_
  refine rg pg ?_
  refine sq ?_
  refine rg pg ?_
  refine LenW.mk (dTms_len _) ?_
  refine wrN 201 5 5 52 rfl rfl ?_
  refine rangeK (X := List Trm) pg l _ rfl (fun x5 => [(0, .d (.int .i64 kind)), (4, .ptr 4 0), (5, .own (dTms x5) 201), (8, .d (.slice (dTms l)))]) (fun x5 => [(4, some (.cells [.d (.int .i64 0), .d (.int .i64 0), .d (.int .i64 0), .d .nils, .d .nils] 52)), (201, some (.row (dTms x5).length 5 52))]) [4, 201] h rfl rfl rfl rfl (fun _ => ⟨rfl, rfl⟩) 1 rfl (dTms_len _) (fun k2 i3 a1 x5 _ g4 h => ?_) (fun x5 h => ?_)
  ·refine rg pg ?_
   refine IdxW.mk (Int.natCast_nonneg _) (dTms_get g4) rfl ?_
   refine rl pg ?_
   obtain ⟨r18, h19, h⟩ := bndB h
   refine callW0 (ref02_Copy_ev h19) rfl ?_
   refine Ask.mk ⟨rfl, rfl⟩ (BsW.mk (dTms_map [r18]).symm (dTms_sz _) ?_)
   obtain ⟨p20, h⟩ := gdB h
   refine Ask.mk ⟨rfl, rfl, rfl⟩ (AppW.mk (dTms_app _ _) (dTms_sz _) (dTms_sz _) (by rw [dTms_len, dTms_len]; exact p20) ?_)
   exact jt (x5 ++ [r18]) h rfl rfl rfl
  ·refine rg pg ?_
   refine rt ?_
   obtain rfl := Option.some.inj h
   exact en rfl rfl
theorem ref07_Eq_ev {s : Trm} {t : Trm} {r : Frm} (h : ref07_Eq s t = some r) : Ev Tryz.prog GL 89 [.agg ((dTm s).map V.d), .agg ((dTm t).map V.d)] [] (.agg ((dFm r).map V.d)) [] := by
  refine evb pg Tryz.func89 rfl (by kernel_rfl) 11 [.cell 4 45] rfl rfl rfl (fun E ι0 => ?_)
  refine rg pg ?_
  refine rgd pg ?_
  obtain ⟨r1, h2, h⟩ := bndB h
  refine callW0 (ref02_Copy_ev h2) rfl ?_
  obtain ⟨r3, h4, h⟩ := bndB h
  refine callW0 (ref02_Copy_ev h4) rfl ?_
  refine Ask.mk ⟨rfl, rfl⟩ (BsW.mk (dTms_map [r1, r3]).symm (dTms_sz _) ?_)
  refine Ask.mk (by kernel_rfl) ?_
  refine rt ?_
  obtain rfl := Option.some.inj h
  exact en rfl rfl
theorem ref07_False_ev {_u : Unit} {r : Frm} (h : ref07_False _u = some r) : Ev Tryz.prog GL 21 [] [] (.agg ((dFm r).map V.d)) [] := by
  refine evb pg Tryz.func21 rfl (by kernel_rfl) 6 [.cell 0 45] rfl rfl rfl (fun E ι0 => ?_)
  refine rg pg ?_
  refine rg pg ?_
  obtain ⟨r1, h2, h⟩ := bndB h
  refine callW0 (ref02_N_ev h2) rfl ?_
  obtain ⟨r3, h4, h⟩ := bndB h
  refine callW0 (ref02_N_ev h4) rfl ?_
  refine Ask.mk ⟨rfl, rfl⟩ (BsW.mk (dTms_map [r3]).symm (dTms_sz _) ?_)
  obtain ⟨r5, h6, h⟩ := bndB h
  refine callW0 (ref02_N_ev h6) rfl ?_
  obtain ⟨r7, h8, h⟩ := bndB h
  refine callW0 (ref07_Eq_ev h8) rfl ?_
  refine rt ?_
  obtain rfl := Option.some.inj h
  exact en rfl rfl
theorem ref01_Same_be (self : Typ → Typ → Option (Bool)) (hs : ∀ {a : Typ} {b : Typ} {r : Bool}, self a b = some r → Ev Tryz.prog GL 127 [.agg ((dTy a).map V.d), .agg ((dTy b).map V.d)] [] (.d (.bool r)) []) {a : Typ} {b : Typ} {r : Bool} (h : ref01_Same_b self a b = some r) : Ev Tryz.prog GL 127 [.agg ((dTy a).map V.d), .agg ((dTy b).map V.d)] [] (.d (.bool r)) [] := by
  refine evb pg Tryz.func127 rfl (by kernel_rfl) 39 [.tmp 4] rfl rfl rfl (fun E ι0 => ?_)
  refine rg pg ?_
  refine sq ?_
  refine rg pg ?_
  refine gwF h (fun h hb1 => ?_) (fun h hb1 => ?_)
  ·refine gf rfl ?_
   refine gf rfl ?_
   refine gf rfl ?_
   refine gf rfl ?_
   refine gf rfl ?_
   refine gf rfl ?_
   refine cdT rfl ?_
   refine rg pg ?_
   refine rt ?_
   obtain rfl := Option.some.inj h
   exact en rfl rfl
  ·refine gl rfl ?_
   refine gl rfl ?_
   refine LenW.mk (dTys_len _) ?_
   refine gl rfl ?_
   refine gl rfl ?_
   refine gl rfl ?_
   refine LenW.mk (dTys_len _) ?_
   refine gl rfl ?_
   refine cd h rfl (fun h hb2 => ?_) (fun h hb2 => ?_)
   ·refine rg pg ?_
    refine rt ?_
    obtain rfl := Option.some.inj h
    exact en rfl rfl
   ·refine sk ?_
    refine sq ?_
    refine rg pg ?_
    refine LenW.mk (dTys_len _) ?_
    refine rangeK (X := Unit) pg a.args _ rfl (fun x7 => [(2, .ptr 2 0), (3, .ptr 3 0)]) (fun x7 => [(2, some (.cells ((dTy a).map V.d) 34)), (3, some (.cells ((dTy b).map V.d) 34))]) [2, 3] h rfl rfl rfl rfl (fun _ => ⟨rfl, rfl⟩) 13 rfl (dTys_len _) (fun k4 i5 a3 x7 _ g6 h => ?_) (fun x7 h => ?_)
    ·refine rg pg ?_
     refine rgd pg ?_
     refine IdxW.mk (Int.natCast_nonneg _) (dTys_get g6) rfl ?_
     obtain ⟨a14, p15, g16, h⟩ := idxB h
     refine IdxW.mk p15 (dTys_get g16) rfl ?_
     obtain ⟨r17, h18, h⟩ := bndB h
     refine callW0 (hs h18) rfl ?_
     refine Ask.mk (by kernel_rfl) ?_
     refine cd h rfl (fun h hb19 => ?_) (fun h hb19 => ?_)
     ·refine rg pg ?_
      refine rt ?_
      obtain rfl := Option.some.inj h
      exact en rfl rfl
     ·refine sk ?_
      exact jt () h rfl rfl rfl
    ·refine rg pg ?_
     refine rt ?_
     obtain rfl := Option.some.inj h
     exact en rfl rfl
theorem ref01_Same_me : ∀ (m : Nat) {a : Typ} {b : Typ} {r : Bool}, ref01_Same_m m a b = some r → Ev Tryz.prog GL 127 [.agg ((dTy a).map V.d), .agg ((dTy b).map V.d)] [] (.d (.bool r)) []
  | 0, _, _, _, h => nomatch (show none = some _ from h)
  | m + 1, _, _, _, h => ref01_Same_be (ref01_Same_m m) (fun h => ref01_Same_me m h) h
theorem ref01_Same_ev {a : Typ} {b : Typ} {r : Bool} (h : ref01_Same a b = some r) : Ev Tryz.prog GL 127 [.agg ((dTy a).map V.d), .agg ((dTy b).map V.d)] [] (.d (.bool r)) [] := ref01_Same_me FU h
theorem ref02_Same_be (self : Trm → Trm → Option (Bool)) (hs : ∀ {a : Trm} {b : Trm} {r : Bool}, self a b = some r → Ev Tryz.prog GL 243 [.agg ((dTm a).map V.d), .agg ((dTm b).map V.d)] [] (.d (.bool r)) []) {a : Trm} {b : Trm} {r : Bool} (h : ref02_Same_b self a b = some r) : Ev Tryz.prog GL 243 [.agg ((dTm a).map V.d), .agg ((dTm b).map V.d)] [] (.d (.bool r)) [] := by
  refine evb pg Tryz.func243 rfl (by kernel_rfl) 54 [.tmp 4] rfl rfl rfl (fun E ι0 => ?_)
  refine rg pg ?_
  refine sq ?_
  refine rg pg ?_
  refine gwF h (fun h hb1 => ?_) (fun h hb1 => ?_)
  ·refine gf rfl ?_
   refine gf rfl ?_
   refine gf rfl ?_
   refine gf rfl ?_
   refine gf rfl ?_
   refine gf rfl ?_
   refine gf rfl ?_
   refine gf rfl ?_
   refine gf rfl ?_
   refine gf rfl ?_
   refine gf rfl ?_
   refine gf rfl ?_
   refine gf rfl ?_
   refine gf rfl ?_
   refine gf rfl ?_
   refine gf rfl ?_
   refine gf rfl ?_
   refine cdT rfl ?_
   refine rg pg ?_
   refine rt ?_
   obtain rfl := Option.some.inj h
   exact en rfl rfl
  ·refine gl rfl ?_
   refine gl rfl ?_
   refine gl rfl ?_
   refine gl rfl ?_
   refine gwF h (fun h hb2 => ?_) (fun h hb2 => ?_)
   ·refine gf rfl ?_
    refine gf rfl ?_
    refine gf rfl ?_
    refine gf rfl ?_
    refine gf rfl ?_
    refine gf rfl ?_
    refine gf rfl ?_
    refine gf rfl ?_
    refine gf rfl ?_
    refine gf rfl ?_
    refine gf rfl ?_
    refine gf rfl ?_
    refine cdT rfl ?_
    refine rg pg ?_
    refine rt ?_
    obtain rfl := Option.some.inj h
    exact en rfl rfl
   ·refine gl rfl ?_
    refine gl rfl ?_
    refine gl rfl ?_
    refine gl rfl ?_
    obtain ⟨r3, h4, h⟩ := bndB h
    refine callW0 (ref01_Same_ev h4) rfl ?_
    refine gl rfl ?_
    refine gwF h (fun h hb5 => ?_) (fun h hb5 => ?_)
    ·refine gf rfl ?_
     refine gf rfl ?_
     refine gf rfl ?_
     refine gf rfl ?_
     refine gf rfl ?_
     refine gf rfl ?_
     refine cdT rfl ?_
     refine rg pg ?_
     refine rt ?_
     obtain rfl := Option.some.inj h
     exact en rfl rfl
    ·refine gl rfl ?_
     refine gl rfl ?_
     refine LenW.mk (dTms_len _) ?_
     refine gl rfl ?_
     refine gl rfl ?_
     refine gl rfl ?_
     refine LenW.mk (dTms_len _) ?_
     refine gl rfl ?_
     refine cd h rfl (fun h hb6 => ?_) (fun h hb6 => ?_)
     ·refine rg pg ?_
      refine rt ?_
      obtain rfl := Option.some.inj h
      exact en rfl rfl
     ·refine sk ?_
      refine sq ?_
      refine rg pg ?_
      refine LenW.mk (dTms_len _) ?_
      refine rangeK (X := Unit) pg a.args _ rfl (fun x11 => [(2, .ptr 2 0), (3, .ptr 3 0)]) (fun x11 => [(2, some (.cells ((dTm a).map V.d) 52)), (3, some (.cells ((dTm b).map V.d) 52))]) [2, 3] h rfl rfl rfl rfl (fun _ => ⟨rfl, rfl⟩) 28 rfl (dTms_len _) (fun k8 i9 a7 x11 _ g10 h => ?_) (fun x11 h => ?_)
      ·refine rg pg ?_
       refine rgd pg ?_
       refine IdxW.mk (Int.natCast_nonneg _) (dTms_get g10) rfl ?_
       obtain ⟨a18, p19, g20, h⟩ := idxB h
       refine IdxW.mk p19 (dTms_get g20) rfl ?_
       obtain ⟨r21, h22, h⟩ := bndB h
       refine callW0 (hs h22) rfl ?_
       refine Ask.mk (by kernel_rfl) ?_
       refine cd h rfl (fun h hb23 => ?_) (fun h hb23 => ?_)
       ·refine rg pg ?_
        refine rt ?_
        obtain rfl := Option.some.inj h
        exact en rfl rfl
       ·refine sk ?_
        exact jt () h rfl rfl rfl
      ·refine rg pg ?_
       refine rt ?_
       obtain rfl := Option.some.inj h
       exact en rfl rfl
theorem ref02_Same_me : ∀ (m : Nat) {a : Trm} {b : Trm} {r : Bool}, ref02_Same_m m a b = some r → Ev Tryz.prog GL 243 [.agg ((dTm a).map V.d), .agg ((dTm b).map V.d)] [] (.d (.bool r)) []
  | 0, _, _, _, h => nomatch (show none = some _ from h)
  | m + 1, _, _, _, h => ref02_Same_be (ref02_Same_m m) (fun h => ref02_Same_me m h) h
theorem ref02_Same_ev {a : Trm} {b : Trm} {r : Bool} (h : ref02_Same a b = some r) : Ev Tryz.prog GL 243 [.agg ((dTm a).map V.d), .agg ((dTm b).map V.d)] [] (.d (.bool r)) [] := ref02_Same_me FU h
theorem ref02_SameAll_ev {a : List Trm} {b : List Trm} {r : Bool} (h : ref02_SameAll a b = some r) : Ev Tryz.prog GL 147 [.d (.slice (dTms a)), .d (.slice (dTms b))] [] (.d (.bool r)) [] := by
  refine evb pg Tryz.func147 rfl (by kernel_rfl) 27 [.tmp 4] rfl rfl rfl (fun E ι0 => ?_)
  refine rg pg ?_
  refine sq ?_
  refine rg pg ?_
  refine LenW.mk (dTms_len _) ?_
  refine LenW.mk (dTms_len _) ?_
  refine cd h rfl (fun h hb1 => ?_) (fun h hb1 => ?_)
  ·refine rg pg ?_
   refine rt ?_
   obtain rfl := Option.some.inj h
   exact en rfl rfl
  ·refine sk ?_
   refine sq ?_
   refine rg pg ?_
   refine LenW.mk (dTms_len _) ?_
   refine rangeK (X := Unit) pg a _ rfl (fun x6 => [(0, .d (.slice (dTms a))), (1, .d (.slice (dTms b)))]) (fun x6 => []) [] h rfl rfl rfl rfl (fun _ => ⟨rfl, rfl⟩) 0 rfl (dTms_len _) (fun k3 i4 a2 x6 _ g5 h => ?_) (fun x6 h => ?_)
   ·refine rg pg ?_
    refine rgd pg ?_
    refine IdxW.mk (Int.natCast_nonneg _) (dTms_get g5) rfl ?_
    obtain ⟨a13, p14, g15, h⟩ := idxB h
    refine IdxW.mk p14 (dTms_get g15) rfl ?_
    obtain ⟨r16, h17, h⟩ := bndB h
    refine callW0 (ref02_Same_ev h17) rfl ?_
    refine Ask.mk (by kernel_rfl) ?_
    refine cd h rfl (fun h hb18 => ?_) (fun h hb18 => ?_)
    ·refine rg pg ?_
     refine rt ?_
     obtain rfl := Option.some.inj h
     exact en rfl rfl
    ·refine sk ?_
     exact jt () h rfl rfl rfl
   ·refine rg pg ?_
    refine rt ?_
    obtain rfl := Option.some.inj h
    exact en rfl rfl
theorem ref07_Same_be (self : Frm → Frm → Option (Bool)) (hs : ∀ {a : Frm} {b : Frm} {r : Bool}, self a b = some r → Ev Tryz.prog GL 49 [.agg ((dFm a).map V.d), .agg ((dFm b).map V.d)] [] (.d (.bool r)) []) {a : Frm} {b : Frm} {r : Bool} (h : ref07_Same_b self a b = some r) : Ev Tryz.prog GL 49 [.agg ((dFm a).map V.d), .agg ((dFm b).map V.d)] [] (.d (.bool r)) [] := by
  refine evb pg Tryz.func49 rfl (by kernel_rfl) 55 [.tmp 4] rfl rfl rfl (fun E ι0 => ?_)
  refine rg pg ?_
  refine sq ?_
  refine rg pg ?_
  refine gwF h (fun h hb1 => ?_) (fun h hb1 => ?_)
  ·refine gf rfl ?_
   refine gf rfl ?_
   refine gf rfl ?_
   refine gf rfl ?_
   refine gf rfl ?_
   refine gf rfl ?_
   refine gf rfl ?_
   refine gf rfl ?_
   refine gf rfl ?_
   refine gf rfl ?_
   refine gf rfl ?_
   refine gf rfl ?_
   refine gf rfl ?_
   refine gf rfl ?_
   refine gf rfl ?_
   refine gf rfl ?_
   refine gf rfl ?_
   refine gf rfl ?_
   refine cdT rfl ?_
   refine rg pg ?_
   refine rt ?_
   obtain rfl := Option.some.inj h
   exact en rfl rfl
  ·refine gl rfl ?_
   refine gl rfl ?_
   refine gl rfl ?_
   refine gl rfl ?_
   obtain ⟨r2, h3, h⟩ := bndB h
   refine callW0 (ref01_Same_ev h3) rfl ?_
   refine gl rfl ?_
   refine gwF h (fun h hb4 => ?_) (fun h hb4 => ?_)
   ·refine gf rfl ?_
    refine gf rfl ?_
    refine gf rfl ?_
    refine gf rfl ?_
    refine gf rfl ?_
    refine gf rfl ?_
    refine gf rfl ?_
    refine gf rfl ?_
    refine gf rfl ?_
    refine gf rfl ?_
    refine gf rfl ?_
    refine gf rfl ?_
    refine cdT rfl ?_
    refine rg pg ?_
    refine rt ?_
    obtain rfl := Option.some.inj h
    exact en rfl rfl
   ·refine gl rfl ?_
    refine gl rfl ?_
    refine gl rfl ?_
    refine gl rfl ?_
    obtain ⟨r5, h6, h⟩ := bndB h
    refine callW0 (ref02_SameAll_ev h6) rfl ?_
    refine gl rfl ?_
    refine gwF h (fun h hb7 => ?_) (fun h hb7 => ?_)
    ·refine gf rfl ?_
     refine gf rfl ?_
     refine gf rfl ?_
     refine gf rfl ?_
     refine gf rfl ?_
     refine gf rfl ?_
     refine cdT rfl ?_
     refine rg pg ?_
     refine rt ?_
     obtain rfl := Option.some.inj h
     exact en rfl rfl
    ·refine gl rfl ?_
     refine gl rfl ?_
     refine LenW.mk (dFms_len _) ?_
     refine gl rfl ?_
     refine gl rfl ?_
     refine gl rfl ?_
     refine LenW.mk (dFms_len _) ?_
     refine gl rfl ?_
     refine cd h rfl (fun h hb8 => ?_) (fun h hb8 => ?_)
     ·refine rg pg ?_
      refine rt ?_
      obtain rfl := Option.some.inj h
      exact en rfl rfl
     ·refine sk ?_
      refine sq ?_
      refine rg pg ?_
      refine LenW.mk (dFms_len _) ?_
      refine rangeK (X := Unit) pg a.args _ rfl (fun x13 => [(2, .ptr 2 0), (3, .ptr 3 0)]) (fun x13 => [(2, some (.cells ((dFm a).map V.d) 45)), (3, some (.cells ((dFm b).map V.d) 45))]) [2, 3] h rfl rfl rfl rfl (fun _ => ⟨rfl, rfl⟩) 29 rfl (dFms_len _) (fun k10 i11 a9 x13 _ g12 h => ?_) (fun x13 h => ?_)
      ·refine rg pg ?_
       refine rgd pg ?_
       refine IdxW.mk (Int.natCast_nonneg _) (dFms_get g12) rfl ?_
       obtain ⟨a20, p21, g22, h⟩ := idxB h
       refine IdxW.mk p21 (dFms_get g22) rfl ?_
       obtain ⟨r23, h24, h⟩ := bndB h
       refine callW0 (hs h24) rfl ?_
       refine Ask.mk (by kernel_rfl) ?_
       refine cd h rfl (fun h hb25 => ?_) (fun h hb25 => ?_)
       ·refine rg pg ?_
        refine rt ?_
        obtain rfl := Option.some.inj h
        exact en rfl rfl
       ·refine sk ?_
        exact jt () h rfl rfl rfl
      ·refine rg pg ?_
       refine rt ?_
       obtain rfl := Option.some.inj h
       exact en rfl rfl
theorem ref07_Same_me : ∀ (m : Nat) {a : Frm} {b : Frm} {r : Bool}, ref07_Same_m m a b = some r → Ev Tryz.prog GL 49 [.agg ((dFm a).map V.d), .agg ((dFm b).map V.d)] [] (.d (.bool r)) []
  | 0, _, _, _, h => nomatch (show none = some _ from h)
  | m + 1, _, _, _, h => ref07_Same_be (ref07_Same_m m) (fun h => ref07_Same_me m h) h
theorem ref07_Same_ev {a : Frm} {b : Frm} {r : Bool} (h : ref07_Same a b = some r) : Ev Tryz.prog GL 49 [.agg ((dFm a).map V.d), .agg ((dFm b).map V.d)] [] (.d (.bool r)) [] := ref07_Same_me FU h
theorem law07_sane_ev {_u : Unit} {r : Bool} (h : law07_sane _u = some r) : Ev Tryz.prog GL 35 [] [] (.d (.bool r)) [] := by
  refine evb pg Tryz.func35 rfl (by kernel_rfl) 34 [.tmp 0] rfl rfl rfl (fun E ι0 => ?_)
  refine rg pg ?_
  refine rg pg ?_
  obtain ⟨r1, h2, h⟩ := bndB h
  refine callW0 (ref02_Var_ev h2) rfl ?_
  obtain ⟨r3, h4, h⟩ := bndB h
  refine callW0 (ref02_Var_ev h4) rfl ?_
  refine Ask.mk ⟨rfl, rfl⟩ (BsW.mk (dTms_map [r1, r3]).symm (dTms_sz _) ?_)
  refine Ask.mk ⟨rfl, rfl⟩ (BsW.mk (dFms_map [(Frm.mk 1 (Typ.mk 0 ([] : List Typ)) [r1, r3] ([] : List Frm))]).symm (dFms_sz _) ?_)
  refine rg pg ?_
  obtain ⟨r5, h6, h⟩ := bndB h
  refine callW0 (formula_Uses_ev h6) rfl ?_
  refine rg pg ?_
  refine gwT h (fun h hb7 => ?_) (fun h hb7 => ?_)
  ·refine gl rfl ?_
   refine LenW.mk (dInts_len _) ?_
   refine gl rfl ?_
   refine gwT h (fun h hb8 => ?_) (fun h hb8 => ?_)
   ·refine gl rfl ?_
    obtain ⟨a9, p10, g11, h⟩ := idxB h
    refine IdxW.mk p10 (dInts_get g11) rfl ?_
    refine gl rfl ?_
    refine gl rfl ?_
    refine gwT h (fun h hb12 => ?_) (fun h hb12 => ?_)
    ·obtain ⟨r13, h14, h⟩ := bndB h
     refine callW0 (formula_False_ev h14) rfl ?_
     refine gl rfl ?_
     obtain ⟨r15, h16, h⟩ := bndB h
     refine callW0 (ref07_False_ev h16) rfl ?_
     refine gl rfl ?_
     obtain ⟨r17, h18, h⟩ := bndB h
     refine callW0 (ref07_Same_ev h18) rfl ?_
     refine rt ?_
     obtain rfl := Option.some.inj h
     exact en rfl rfl
    ·refine gf rfl ?_
     refine gf rfl ?_
     refine rt ?_
     obtain rfl := Option.some.inj h
     exact en rfl rfl
   ·refine gf rfl ?_
    refine gf rfl ?_
    refine gf rfl ?_
    refine gf rfl ?_
    refine gf rfl ?_
    refine gf rfl ?_
    refine rt ?_
    obtain rfl := Option.some.inj h
    exact en rfl rfl
  ·refine gf rfl ?_
   refine gf rfl ?_
   refine gf rfl ?_
   refine gf rfl ?_
   refine gf rfl ?_
   refine gf rfl ?_
   refine gf rfl ?_
   refine gf rfl ?_
   refine gf rfl ?_
   refine rt ?_
   obtain rfl := Option.some.inj h
   exact en rfl rfl
theorem make_Few_ev {l : List Int} {r : Bool} (h : make_Few l = some r) : Ev Tryz.prog GL 14 [.d (.slice (dInts l))] [] (.d (.bool r)) [] := by
  refine evb pg Tryz.func14 rfl (by kernel_rfl) 6 [.tmp 2] rfl rfl rfl (fun E ι0 => ?_)
  refine rg pg ?_
  refine rg pg ?_
  refine LenW.mk (dInts_len _) ?_
  refine rt ?_
  obtain rfl := Option.some.inj h
  exact en rfl rfl
theorem make_New_ev {l : List Int} {r : List Int × Int} (h : make_New l = some r) : Ev Tryz.prog GL 15 [.d (.slice (dInts l))] [] (.ptr 5 0) [(5, .cells [.d (.slice (dInts r.1)), .d (.int .i64 r.2)] 94)] := by
  refine evb pg Tryz.func15 rfl (by kernel_rfl) 6 [.tmp 2] rfl rfl rfl (fun E ι0 => ?_)
  refine rg pg ?_
  refine rg pg ?_
  refine rt ?_
  obtain rfl := Option.some.inj h
  exact en rfl rfl
theorem make_Mod_ev {n : Int} {k : Int} {r : Int} (h : make_Mod n k = some r) : Ev Tryz.prog GL 64 [.d (.int .i64 n), .d (.int .i64 k)] [] (.d (.int .i64 r)) [] := by
  refine evb pg Tryz.func64 rfl (by kernel_rfl) 12 [.tmp 4] rfl rfl rfl (fun E ι0 => ?_)
  refine rg pg ?_
  refine rg pg ?_
  obtain ⟨p1, h⟩ := nzB h
  refine Ask.mk p1 ?_
  obtain ⟨p2, h⟩ := nzB h
  refine Ask.mk p2 ?_
  refine rt ?_
  obtain rfl := Option.some.inj h
  exact en rfl rfl
end Go.AM

/-
  The Go functions reckon what the printed ones do.
-/
import Derived.Test.YtdbgmmeenljnoaaGreatDoorQD0P2
set_option linter.unusedVariables false
set_option linter.unusedSimpArgs false
set_option maxRecDepth 20000
set_option maxHeartbeats 40000000
namespace Go.AM
open Go Go.RowKit Go.Proofs
theorem tree_Each_1_8ac_me : ∀ (m : Nat) {t : Trm} {below : Int} {o3 : List (Int × Bool)} {r : (List (Int × Bool))}, tree_Each_1_8ac_m m t below o3 = some r → Ev Tryz.prog GL 69 [.agg ((dTm t).map V.d), .d (.int .i64 below), .ptr 1000 0, .ptr 1001 0] [(1000, .cells [.clo 43 [.ptr 1002 0]] 69), (1001, .cells [.clo 69 [.ptr 1000 0, .ptr 1001 0]] 89), (1002, .cells [.map 1003] 67), (1003, .map ⟨1, dMap kI vB o3⟩)] (.tup []) [(1000, .cells [.clo 43 [.ptr 1002 0]] 69), (1001, .cells [.clo 69 [.ptr 1000 0, .ptr 1001 0]] 89), (1002, .cells [.map 1003] 67), (1003, .map ⟨1, dMap kI vB r⟩)]
  | 0, _, _, _, _, h => nomatch (show none = some _ from h)
  | m + 1, _, _, _, _, h => tree_Each_1_8ac_be (tree_Each_1_8ac_m m) (fun h => tree_Each_1_8ac_me m h) h
theorem tree_Each_1_8ac_ev {t : Trm} {below : Int} {o3 : List (Int × Bool)} {r : (List (Int × Bool))} (h : tree_Each_1_8ac t below o3 = some r) : Ev Tryz.prog GL 69 [.agg ((dTm t).map V.d), .d (.int .i64 below), .ptr 1000 0, .ptr 1001 0] [(1000, .cells [.clo 43 [.ptr 1002 0]] 69), (1001, .cells [.clo 69 [.ptr 1000 0, .ptr 1001 0]] 89), (1002, .cells [.map 1003] 67), (1003, .map ⟨1, dMap kI vB o3⟩)] (.tup []) [(1000, .cells [.clo 43 [.ptr 1002 0]] 69), (1001, .cells [.clo 69 [.ptr 1000 0, .ptr 1001 0]] 89), (1002, .cells [.map 1003] 67), (1003, .map ⟨1, dMap kI vB r⟩)] := tree_Each_1_8ac_me FU h
theorem tree_Each_ba6_ev {t : Trm} {o1 : List (Int × Bool)} {r : (List (Int × Bool))} (h : tree_Each_ba6 t o1 = some r) : Ev Tryz.prog GL 42 [.agg ((dTm t).map V.d), .clo 43 [.ptr 1000 0]] [(1000, .cells [.map 1001] 67), (1001, .map ⟨1, dMap kI vB o1⟩)] (.tup []) [(1000, .cells [.map 1001] 67), (1001, .map ⟨1, dMap kI vB r⟩)] := by
  refine evb pg Tryz.func42 rfl (by kernel_rfl) 9 [] rfl rfl rfl (fun E ι0 => ?_)
  refine rg pg ?_
  refine rg pg ?_
  refine rg pg ?_
  refine rl pg ?_
  obtain ⟨r1, h2, h⟩ := bndB h
  refine callW [(1000, 3), (1001, 4), (1002, 1000), (1003, 1001)] (tree_Each_1_8ac_ev h2) rfl rfl rfl rfl rfl ?_
  obtain rfl := Option.some.inj h
  exact enN rfl rfl
theorem maps_Keys_map_int_bool_int_bool_d9f_ev {o0 : List (Int × Bool)} {r : Unit} (h : maps_Keys_map_int_bool_int_bool_d9f o0 = some r) : Ev Tryz.prog GL 45 [.map 1000] [(1000, .map ⟨1, dMap kI vB o0⟩)] (.clo 72 [.ptr 1 0]) [(1000, .map ⟨1, dMap kI vB o0⟩), (1, .cells [.map 1000] 67)] := by
  refine evb pg Tryz.func45 rfl (by kernel_rfl) 4 [.tmp 2] rfl rfl rfl (fun E ι0 => ?_)
  refine rg pg ?_
  refine rg pg ?_
  refine rt ?_
  obtain rfl := Option.some.inj h
  exact en rfl rfl
theorem slices_Sorted_225_ev {o1 : List (Int × Bool)} {r : List Int} (h : slices_Sorted_225 o1 = some r) : Ev Tryz.prog GL 44 [.clo 72 [.ptr 1000 0]] [(1000, .cells [.map 1001] 67), (1001, .map ⟨1, dMap kI vB o1⟩)] (.d (.slice (dInts r))) [(1000, .cells [.map 1001] 67), (1001, .map ⟨1, dMap kI vB o1⟩)] := sortedKeysI_ev ⟨_, _, Tryz.func44, rfl, by kernel_rfl⟩ rfl KEYS44 h
theorem subst_Uses_ev {t : Trm} {r : List Int × Int} (h : subst_Uses t = some r) : Ev Tryz.prog GL 11 [.agg ((dTm t).map V.d)] [] (.tup [.d (.slice (dInts r.1)), .d (.int .i64 r.2)]) [] := by
  refine evb pg Tryz.func11 rfl (by kernel_rfl) 18 [.tmp 2, .tmp 3] rfl rfl rfl (fun E ι0 => ?_)
  refine rg pg ?_
  refine sq ?_
  refine rg pg ?_
  obtain ⟨r1, h2, h⟩ := bndB h
  refine callW0 (terms_Check_ev h2) rfl ?_
  refine rg pg ?_
  refine cd h rfl (fun h hb3 => ?_) (fun h hb3 => ?_)
  ·refine rg pg ?_
   refine rt ?_
   obtain rfl := Option.some.inj h
   exact en rfl rfl
  ·refine sk ?_
   refine rg pg ?_
   refine rg pg ?_
   obtain ⟨r4, h5, h⟩ := bndB h
   refine callW [(1000, 5), (1001, 11)] (tree_Each_ba6_ev h5) rfl rfl rfl rfl rfl ?_
   refine rg pg ?_
   obtain ⟨r6, h7, h⟩ := bndB h
   refine callW [(1, 10016), (1000, 11)] (maps_Keys_map_int_bool_int_bool_d9f_ev h7) rfl rfl rfl rfl rfl ?_
   obtain ⟨r8, h9, h⟩ := bndB h
   refine callW [(1000, 10016), (1001, 11)] (slices_Sorted_225_ev h9) rfl rfl rfl rfl rfl ?_
   refine rt ?_
   obtain rfl := Option.some.inj h
   exact en rfl rfl
theorem ref02_args_ev {kind : Int} {r : Int} (h : ref02_args kind = some r) : Ev Tryz.prog GL 87 [.d (.int .i64 kind)] [] (.d (.int .i64 r)) [] := by
  refine evb pg Tryz.func87 rfl (by kernel_rfl) 21 [.tmp 2] rfl rfl rfl (fun E ι0 => ?_)
  refine rg pg ?_
  refine sq ?_
  refine rg pg ?_
  refine bk ?_
  refine join (fun x5 : Bool => ⟨[(3, .d (.int .i64 kind)), (4, .d (.bool x5))], [], []⟩) (fun x5 => ref02_args_k1 kind x5) r ?_ (fun x5 h => ?_)
  ·refine rg pg ?_
   refine cd h rfl (fun h hb1 => ?_) (fun h hb1 => ?_)
   ·refine sk ?_
    exact jt true h rfl rfl rfl
   ·refine rg pg ?_
    refine cd h rfl (fun h hb2 => ?_) (fun h hb2 => ?_)
    ·refine sk ?_
     exact jt true h rfl rfl rfl
    ·refine rg pg ?_
     refine cd h rfl (fun h hb3 => ?_) (fun h hb3 => ?_)
     ·refine sk ?_
      exact jt true h rfl rfl rfl
     ·refine rl pg ?_
      exact jt (kind == 13) h rfl rfl rfl
  ·refine cd h rfl (fun h hb6 => ?_) (fun h hb6 => ?_)
   ·refine rg pg ?_
    refine rt ?_
    obtain rfl := Option.some.inj h
    exact en rfl rfl
   ·refine join (fun x11 : Bool => ⟨[(3, .d (.int .i64 kind)), (9, .d (.bool x11))], [], []⟩) (fun x11 => ref02_args_k2 kind x11) r ?_ (fun x11 h => ?_)
    ·refine rg pg ?_
     refine cd h rfl (fun h hb7 => ?_) (fun h hb7 => ?_)
     ·refine sk ?_
      exact jt true h rfl rfl rfl
     ·refine rg pg ?_
      refine cd h rfl (fun h hb8 => ?_) (fun h hb8 => ?_)
      ·refine sk ?_
       exact jt true h rfl rfl rfl
      ·refine rg pg ?_
       refine cd h rfl (fun h hb9 => ?_) (fun h hb9 => ?_)
       ·refine sk ?_
        exact jt true h rfl rfl rfl
       ·refine rl pg ?_
        exact jt (kind == 12) h rfl rfl rfl
    ·refine cd h rfl (fun h hb12 => ?_) (fun h hb12 => ?_)
     ·refine rg pg ?_
      refine rt ?_
      obtain rfl := Option.some.inj h
      exact en rfl rfl
     ·refine join (fun x16 : Bool => ⟨[(3, .d (.int .i64 kind)), (14, .d (.bool x16))], [], []⟩) (fun x16 => ref02_args_k3 kind x16) r ?_ (fun x16 h => ?_)
      ·refine rg pg ?_
       refine cd h rfl (fun h hb13 => ?_) (fun h hb13 => ?_)
       ·refine sk ?_
        exact jt true h rfl rfl rfl
       ·refine rg pg ?_
        refine cd h rfl (fun h hb14 => ?_) (fun h hb14 => ?_)
        ·refine sk ?_
         exact jt true h rfl rfl rfl
        ·refine rl pg ?_
         exact jt (kind == 10) h rfl rfl rfl
      ·refine cd h rfl (fun h hb17 => ?_) (fun h hb17 => ?_)
       ·refine rg pg ?_
        refine rt ?_
        obtain rfl := Option.some.inj h
        exact en rfl rfl
       ·refine join (fun x20 : Bool => ⟨[(18, .d (.bool x20))], [], []⟩) (fun x20 => ref02_args_k4 x20) r ?_ (fun x20 h => ?_)
        ·refine rg pg ?_
         refine cd h rfl (fun h hb18 => ?_) (fun h hb18 => ?_)
         ·refine sk ?_
          exact jt true h rfl rfl rfl
         ·refine rl pg ?_
          exact jt (kind == 9) h rfl rfl rfl
        ·refine cd h rfl (fun h hb21 => ?_) (fun h hb21 => ?_)
         ·refine rg pg ?_
          refine rt ?_
          obtain rfl := Option.some.inj h
          exact en rfl rfl
         ·refine sk ?_
          refine rg pg ?_
          refine rt ?_
          obtain rfl := Option.some.inj h
          exact en rfl rfl
theorem ref01_shape_be (self : Typ → Option (Bool)) (hs : ∀ {t : Typ} {r : Bool}, self t = some r → Ev Tryz.prog GL 107 [.agg ((dTy t).map V.d)] [] (.d (.bool r)) []) {t : Typ} {r : Bool} (h : ref01_shape_b self t = some r) : Ev Tryz.prog GL 107 [.agg ((dTy t).map V.d)] [] (.d (.bool r)) [] := by
  refine evb pg Tryz.func107 rfl (by kernel_rfl) 31 [.tmp 2] rfl rfl rfl (fun E ι0 => ?_)
  refine rg pg ?_
  refine rg pg ?_
  refine join (fun x11 : Int => ⟨[(1, .ptr 1 0), (3, .d (.int .i64 x11))], [(1, some (.cells ((dTy t).map V.d) 25))], [1]⟩) (fun x11 => ref01_shape_k3 self t x11) r ?_ (fun x11 h => ?_)
  ·refine rg pg ?_
   refine bk ?_
   refine join (fun x4 : Bool => ⟨[(1, .ptr 1 0), (3, .d (.int .i64 0)), (7, .d (.int .i64 t.kind)), (8, .d (.bool x4))], [(1, some (.cells ((dTy t).map V.d) 25))], [1]⟩) (fun x4 => ref01_shape_k1 self t x4) r ?_ (fun x4 h => ?_)
   ·refine rg pg ?_
    refine cd h rfl (fun h hb1 => ?_) (fun h hb1 => ?_)
    ·refine sk ?_
     exact jt true h rfl rfl rfl
    ·refine rg pg ?_
     refine cd h rfl (fun h hb2 => ?_) (fun h hb2 => ?_)
     ·refine sk ?_
      exact jt true h rfl rfl rfl
     ·refine rl pg ?_
      exact jt (t.kind == 5) h rfl rfl rfl
   ·refine cd h rfl (fun h hb5 => ?_) (fun h hb5 => ?_)
    ·refine sk ?_
     exact jt 0 h rfl rfl rfl
    ·refine join (fun x8 : Bool => ⟨[(1, .ptr 1 0), (12, .d (.bool x8))], [(1, some (.cells ((dTy t).map V.d) 25))], [1]⟩) (fun x8 => ref01_shape_k2 self t x8) r ?_ (fun x8 h => ?_)
     ·refine rg pg ?_
      refine cd h rfl (fun h hb6 => ?_) (fun h hb6 => ?_)
      ·refine sk ?_
       exact jt true h rfl rfl rfl
      ·refine rl pg ?_
       exact jt (t.kind == 4) h rfl rfl rfl
     ·refine cd h rfl (fun h hb9 => ?_) (fun h hb9 => ?_)
      ·refine rl pg ?_
       exact jt 2 h rfl rfl rfl
      ·refine rg pg ?_
       refine rt ?_
       obtain rfl := Option.some.inj h
       exact en rfl rfl
  ·refine sq ?_
   refine rg pg ?_
   refine LenW.mk (dTys_len _) ?_
   refine cd h rfl (fun h hb12 => ?_) (fun h hb12 => ?_)
   ·refine rg pg ?_
    refine rt ?_
    obtain rfl := Option.some.inj h
    exact en rfl rfl
   ·refine sk ?_
    refine sq ?_
    refine rg pg ?_
    refine LenW.mk (dTys_len _) ?_
    refine rangeK (X := Unit) pg t.args _ rfl (fun x17 => [(21, .d (.slice (dTys t.args)))]) (fun x17 => []) [] h rfl rfl rfl rfl (fun _ => ⟨rfl, rfl⟩) 16 rfl (dTys_len _) (fun k14 i15 a13 x17 _ g16 h => ?_) (fun x17 h => ?_)
    ·refine rg pg ?_
     refine IdxW.mk (Int.natCast_nonneg _) (dTys_get g16) rfl ?_
     refine rg pg ?_
     obtain ⟨r21, h22, h⟩ := bndB h
     refine callW0 (hs h22) rfl ?_
     refine cd h rfl (fun h hb23 => ?_) (fun h hb23 => ?_)
     ·refine rg pg ?_
      refine rt ?_
      obtain rfl := Option.some.inj h
      exact en rfl rfl
     ·refine sk ?_
      exact jt () h rfl rfl rfl
    ·refine rg pg ?_
     refine rt ?_
     obtain rfl := Option.some.inj h
     exact en rfl rfl
theorem ref01_shape_me : ∀ (m : Nat) {t : Typ} {r : Bool}, ref01_shape_m m t = some r → Ev Tryz.prog GL 107 [.agg ((dTy t).map V.d)] [] (.d (.bool r)) []
  | 0, _, _, h => nomatch (show none = some _ from h)
  | m + 1, _, _, h => ref01_shape_be (ref01_shape_m m) (fun h => ref01_shape_me m h) h
theorem ref01_shape_ev {t : Typ} {r : Bool} (h : ref01_shape t = some r) : Ev Tryz.prog GL 107 [.agg ((dTy t).map V.d)] [] (.d (.bool r)) [] := ref01_shape_me FU h
theorem ref01_size_be (self : Typ → Option (Int)) (hs : ∀ {t : Typ} {r : Int}, self t = some r → Ev Tryz.prog GL 108 [.agg ((dTy t).map V.d)] [] (.d (.int .i64 r)) []) {t : Typ} {r : Int} (h : ref01_size_b self t = some r) : Ev Tryz.prog GL 108 [.agg ((dTy t).map V.d)] [] (.d (.int .i64 r)) [] := by
  refine evb pg Tryz.func108 rfl (by kernel_rfl) 19 [.tmp 2] rfl rfl rfl (fun E ι0 => ?_)
  refine rg pg ?_
  refine rg pg ?_
  refine sq ?_
  refine rg pg ?_
  refine LenW.mk (dTys_len _) ?_
  refine rangeK (X := Int) pg t.args _ rfl (fun x5 => [(3, .d (.int .i64 x5)), (7, .d (.slice (dTys t.args)))]) (fun x5 => []) [] h rfl rfl rfl rfl (fun _ => ⟨rfl, rfl⟩) 7 rfl (dTys_len _) (fun k2 i3 a1 x5 _ g4 h => ?_) (fun x5 h => ?_)
  ·refine rg pg ?_
   refine IdxW.mk (Int.natCast_nonneg _) (dTys_get g4) rfl ?_
   refine rl pg ?_
   obtain ⟨r13, h14, h⟩ := bndB h
   refine callW0 (hs h14) rfl ?_
   exact jt (w64 (x5 + r13)) h rfl rfl rfl
  ·refine rg pg ?_
   refine rt ?_
   obtain rfl := Option.some.inj h
   exact en rfl rfl
theorem ref01_size_me : ∀ (m : Nat) {t : Typ} {r : Int}, ref01_size_m m t = some r → Ev Tryz.prog GL 108 [.agg ((dTy t).map V.d)] [] (.d (.int .i64 r)) []
  | 0, _, _, h => nomatch (show none = some _ from h)
  | m + 1, _, _, h => ref01_size_be (ref01_size_m m) (fun h => ref01_size_me m h) h
theorem ref01_size_ev {t : Typ} {r : Int} (h : ref01_size t = some r) : Ev Tryz.prog GL 108 [.agg ((dTy t).map V.d)] [] (.d (.int .i64 r)) [] := ref01_size_me FU h
theorem ref01_Check_ev {t : Typ} {r : Int} (h : ref01_Check t = some r) : Ev Tryz.prog GL 88 [.agg ((dTy t).map V.d)] [] (.d (.int .i64 r)) [] := by
  refine evb pg Tryz.func88 rfl (by kernel_rfl) 9 [.tmp 2] rfl rfl rfl (fun E ι0 => ?_)
  refine rg pg ?_
  refine sq ?_
  refine rg pg ?_
  obtain ⟨r1, h2, h⟩ := bndB h
  refine callW0 (ref01_shape_ev h2) rfl ?_
  refine cd h rfl (fun h hb3 => ?_) (fun h hb3 => ?_)
  ·refine rg pg ?_
   refine rt ?_
   obtain rfl := Option.some.inj h
   exact en rfl rfl
  ·refine sk ?_
   refine sq ?_
   refine rg pg ?_
   obtain ⟨r4, h5, h⟩ := bndB h
   refine callW0 (ref01_size_ev h5) rfl ?_
   refine cd h rfl (fun h hb6 => ?_) (fun h hb6 => ?_)
   ·refine rg pg ?_
    refine rt ?_
    obtain rfl := Option.some.inj h
    exact en rfl rfl
   ·refine sk ?_
    refine rg pg ?_
    refine rt ?_
    obtain rfl := Option.some.inj h
    exact en rfl rfl
theorem ref01_Zero_ev {t : Typ} {r : Bool} (h : ref01_Zero t = some r) : Ev Tryz.prog GL 89 [.agg ((dTy t).map V.d)] [] (.d (.bool r)) [] := by
  refine evb pg Tryz.func89 rfl (by kernel_rfl) 12 [.tmp 2] rfl rfl rfl (fun E ι0 => ?_)
  refine rg pg ?_
  refine rg pg ?_
  refine gwT h (fun h hb1 => ?_) (fun h hb1 => ?_)
  ·refine gl rfl ?_
   refine gl rfl ?_
   refine LenW.mk (dTys_len _) ?_
   refine gl rfl ?_
   refine rt ?_
   obtain rfl := Option.some.inj h
   exact en rfl rfl
  ·refine gf rfl ?_
   refine gf rfl ?_
   refine gf rfl ?_
   refine rt ?_
   obtain rfl := Option.some.inj h
   exact en rfl rfl
theorem ref02_Shape_be (self : Trm → Option (Bool)) (hs : ∀ {t : Trm} {r : Bool}, self t = some r → Ev Tryz.prog GL 73 [.agg ((dTm t).map V.d)] [] (.d (.bool r)) []) {t : Trm} {r : Bool} (h : ref02_Shape_b self t = some r) : Ev Tryz.prog GL 73 [.agg ((dTm t).map V.d)] [] (.d (.bool r)) [] := by
  refine evb pg Tryz.func73 rfl (by kernel_rfl) 52 [.tmp 2] rfl rfl rfl (fun E ι0 => ?_)
  refine rg pg ?_
  refine join (fun x7 : Unit => ⟨[(1, .ptr 1 0)], [(1, some (.cells ((dTm t).map V.d) 28))], [1]⟩) (fun x7 => ref02_Shape_k1 self t x7) r ?_ (fun x7 h => ?_)
  ·refine rgd pg ?_
   refine LenW.mk (dTms_len _) ?_
   obtain ⟨r1, h2, h⟩ := bndB h
   refine callW0 (ref02_args_ev h2) rfl ?_
   refine gwF h (fun h hb3 => ?_) (fun h hb3 => ?_)
   ·refine gf rfl ?_
    refine gf rfl ?_
    refine gf rfl ?_
    refine gf rfl ?_
    refine gf rfl ?_
    refine gf rfl ?_
    refine gf rfl ?_
    refine Ask.mk (by kernel_rfl) ?_
    refine cdT rfl ?_
    refine rg pg ?_
    refine rt ?_
    obtain rfl := Option.some.inj h
    exact en rfl rfl
   ·refine gl rfl ?_
    refine gl rfl ?_
    refine gwF h (fun h hb4 => ?_) (fun h hb4 => ?_)
    ·refine gf rfl ?_
     refine gf rfl ?_
     refine gf rfl ?_
     refine gf rfl ?_
     refine Ask.mk (by kernel_rfl) ?_
     refine cdT rfl ?_
     refine rg pg ?_
     refine rt ?_
     obtain rfl := Option.some.inj h
     exact en rfl rfl
    ·refine gl rfl ?_
     refine gl rfl ?_
     refine gl rfl ?_
     refine gwT h (fun h hb5 => ?_) (fun h hb5 => ?_)
     ·refine gl rfl ?_
      refine gl rfl ?_
      refine gl rfl ?_
      refine Ask.mk (by kernel_rfl) ?_
      refine cd h rfl (fun h hb6 => ?_) (fun h hb6 => ?_)
      ·refine rg pg ?_
       refine rt ?_
       obtain rfl := Option.some.inj h
       exact en rfl rfl
      ·refine sk ?_
       exact jt () h rfl rfl rfl
     ·refine gf rfl ?_
      refine gf rfl ?_
      refine gl rfl ?_
      refine Ask.mk (by kernel_rfl) ?_
      refine cdF rfl ?_
      refine sk ?_
      exact jt () h rfl rfl rfl
  ·refine join (fun x19 : Unit => ⟨[(1, .ptr 1 0)], [(1, some (.cells ((dTm t).map V.d) 28))], [1]⟩) (fun x19 => ref02_Shape_k3 self t x19) r ?_ (fun x19 h => ?_)
   ·refine rg pg ?_
    refine bk ?_
    refine join (fun x11 : Bool => ⟨[(1, .ptr 1 0), (33, .d (.bool x11))], [(1, some (.cells ((dTm t).map V.d) 28))], [1]⟩) (fun x11 => ref02_Shape_k2 self t x11) r ?_ (fun x11 h => ?_)
    ·refine rg pg ?_
     refine cd h rfl (fun h hb8 => ?_) (fun h hb8 => ?_)
     ·refine sk ?_
      exact jt true h rfl rfl rfl
     ·refine rg pg ?_
      refine cd h rfl (fun h hb9 => ?_) (fun h hb9 => ?_)
      ·refine sk ?_
       exact jt true h rfl rfl rfl
      ·refine rl pg ?_
       exact jt (t.kind == 9) h rfl rfl rfl
    ·refine cd h rfl (fun h hb12 => ?_) (fun h hb12 => ?_)
     ·refine rg pg ?_
      obtain ⟨r13, h14, h⟩ := bndB h
      refine callW0 (ref01_Check_ev h14) rfl ?_
      refine cd h rfl (fun h hb15 => ?_) (fun h hb15 => ?_)
      ·refine rg pg ?_
       refine rt ?_
       obtain rfl := Option.some.inj h
       exact en rfl rfl
      ·refine sk ?_
       exact jt () h rfl rfl rfl
     ·refine rg pg ?_
      obtain ⟨r16, h17, h⟩ := bndB h
      refine callW0 (ref01_Zero_ev h17) rfl ?_
      refine cd h rfl (fun h hb18 => ?_) (fun h hb18 => ?_)
      ·refine rg pg ?_
       refine rt ?_
       obtain rfl := Option.some.inj h
       exact en rfl rfl
      ·refine sk ?_
       exact jt () h rfl rfl rfl
   ·refine sq ?_
    refine rg pg ?_
    refine LenW.mk (dTms_len _) ?_
    refine rangeK (X := Unit) pg t.args _ rfl (fun x24 => [(42, .d (.slice (dTms t.args)))]) (fun x24 => []) [] h rfl rfl rfl rfl (fun _ => ⟨rfl, rfl⟩) 42 rfl (dTms_len _) (fun k21 i22 a20 x24 _ g23 h => ?_) (fun x24 h => ?_)
    ·refine rg pg ?_
     refine IdxW.mk (Int.natCast_nonneg _) (dTms_get g23) rfl ?_
     refine rg pg ?_
     obtain ⟨r28, h29, h⟩ := bndB h
     refine callW0 (hs h29) rfl ?_
     refine cd h rfl (fun h hb30 => ?_) (fun h hb30 => ?_)
     ·refine rg pg ?_
      refine rt ?_
      obtain rfl := Option.some.inj h
      exact en rfl rfl
     ·refine sk ?_
      exact jt () h rfl rfl rfl
    ·refine rg pg ?_
     refine rt ?_
     obtain rfl := Option.some.inj h
     exact en rfl rfl
theorem ref02_Shape_me : ∀ (m : Nat) {t : Trm} {r : Bool}, ref02_Shape_m m t = some r → Ev Tryz.prog GL 73 [.agg ((dTm t).map V.d)] [] (.d (.bool r)) []
  | 0, _, _, h => nomatch (show none = some _ from h)
  | m + 1, _, _, h => ref02_Shape_be (ref02_Shape_m m) (fun h => ref02_Shape_me m h) h
theorem ref02_Shape_ev {t : Trm} {r : Bool} (h : ref02_Shape t = some r) : Ev Tryz.prog GL 73 [.agg ((dTm t).map V.d)] [] (.d (.bool r)) [] := ref02_Shape_me FU h
theorem ref02_Count_be (self : Trm → Option (Int)) (hs : ∀ {t : Trm} {r : Int}, self t = some r → Ev Tryz.prog GL 59 [.agg ((dTm t).map V.d)] [] (.d (.int .i64 r)) []) {t : Trm} {r : Int} (h : ref02_Count_b self t = some r) : Ev Tryz.prog GL 59 [.agg ((dTm t).map V.d)] [] (.d (.int .i64 r)) [] := by
  refine evb pg Tryz.func59 rfl (by kernel_rfl) 19 [.tmp 2] rfl rfl rfl (fun E ι0 => ?_)
  refine rg pg ?_
  refine rg pg ?_
  refine sq ?_
  refine rg pg ?_
  refine LenW.mk (dTms_len _) ?_
  refine rangeK (X := Int) pg t.args _ rfl (fun x5 => [(3, .d (.int .i64 x5)), (7, .d (.slice (dTms t.args)))]) (fun x5 => []) [] h rfl rfl rfl rfl (fun _ => ⟨rfl, rfl⟩) 7 rfl (dTms_len _) (fun k2 i3 a1 x5 _ g4 h => ?_) (fun x5 h => ?_)
  ·refine rg pg ?_
   refine IdxW.mk (Int.natCast_nonneg _) (dTms_get g4) rfl ?_
   refine rl pg ?_
   obtain ⟨r13, h14, h⟩ := bndB h
   refine callW0 (hs h14) rfl ?_
   exact jt (w64 (x5 + r13)) h rfl rfl rfl
  ·refine rg pg ?_
   refine rt ?_
   obtain rfl := Option.some.inj h
   exact en rfl rfl
theorem ref02_Count_me : ∀ (m : Nat) {t : Trm} {r : Int}, ref02_Count_m m t = some r → Ev Tryz.prog GL 59 [.agg ((dTm t).map V.d)] [] (.d (.int .i64 r)) []
  | 0, _, _, h => nomatch (show none = some _ from h)
  | m + 1, _, _, h => ref02_Count_be (ref02_Count_m m) (fun h => ref02_Count_me m h) h
theorem ref02_Count_ev {t : Trm} {r : Int} (h : ref02_Count t = some r) : Ev Tryz.prog GL 59 [.agg ((dTm t).map V.d)] [] (.d (.int .i64 r)) [] := ref02_Count_me FU h
theorem ref02_Check_ev {t : Trm} {r : Int} (h : ref02_Check t = some r) : Ev Tryz.prog GL 46 [.agg ((dTm t).map V.d)] [] (.d (.int .i64 r)) [] := by
  refine evb pg Tryz.func46 rfl (by kernel_rfl) 9 [.tmp 2] rfl rfl rfl (fun E ι0 => ?_)
  refine rg pg ?_
  refine sq ?_
  refine rg pg ?_
  obtain ⟨r1, h2, h⟩ := bndB h
  refine callW0 (ref02_Shape_ev h2) rfl ?_
  refine cd h rfl (fun h hb3 => ?_) (fun h hb3 => ?_)
  ·refine rg pg ?_
   refine rt ?_
   obtain rfl := Option.some.inj h
   exact en rfl rfl
  ·refine sk ?_
   refine sq ?_
   refine rg pg ?_
   obtain ⟨r4, h5, h⟩ := bndB h
   refine callW0 (ref02_Count_ev h5) rfl ?_
   refine cd h rfl (fun h hb6 => ?_) (fun h hb6 => ?_)
   ·refine rg pg ?_
    refine rt ?_
    obtain rfl := Option.some.inj h
    exact en rfl rfl
   ·refine sk ?_
    refine rg pg ?_
    refine rt ?_
    obtain rfl := Option.some.inj h
    exact en rfl rfl
theorem ref03_below_ev {t : Trm} {r : Int} (h : ref03_below t = some r) : Ev Tryz.prog GL 74 [.agg ((dTm t).map V.d)] [] (.d (.int .i64 r)) [] := by
  refine evb pg Tryz.func74 rfl (by kernel_rfl) 6 [.tmp 2] rfl rfl rfl (fun E ι0 => ?_)
  refine rg pg ?_
  refine sq ?_
  refine rg pg ?_
  refine cd h rfl (fun h hb1 => ?_) (fun h hb1 => ?_)
  ·refine rg pg ?_
   refine rt ?_
   obtain rfl := Option.some.inj h
   exact en rfl rfl
  ·refine sk ?_
   refine rg pg ?_
   refine rt ?_
   obtain rfl := Option.some.inj h
   exact en rfl rfl
theorem ref03_Mark_31b_be (self : Trm → Int → (List (Int × Bool)) → Option ((List (Int × Bool)))) (hs : ∀ {t : Trm} {depth : Int} {o0 : List (Int × Bool)} {r : (List (Int × Bool))}, self t depth o0 = some r → Ev Tryz.prog GL 47 [.agg ((dTm t).map V.d), .d (.int .i64 depth), .map 1000] [(1000, .map ⟨1, dMap kI vB o0⟩)] (.tup []) [(1000, .map ⟨1, dMap kI vB r⟩)]) {t : Trm} {depth : Int} {o0 : List (Int × Bool)} {r : (List (Int × Bool))} (h : ref03_Mark_31b_b self t depth o0 = some r) : Ev Tryz.prog GL 47 [.agg ((dTm t).map V.d), .d (.int .i64 depth), .map 1000] [(1000, .map ⟨1, dMap kI vB o0⟩)] (.tup []) [(1000, .map ⟨1, dMap kI vB r⟩)] := by
  refine evb pg Tryz.func47 rfl (by kernel_rfl) 37 [] rfl rfl rfl (fun E ι0 => ?_)
  refine rg pg ?_
  refine join (fun x4 : (List (Int × Bool)) => ⟨[(1, .d (.int .i64 depth)), (2, .map 1000), (3, .ptr 3 0)], [(1000, some (.map ⟨1, dMap kI vB x4⟩)), (3, some (.cells ((dTm t).map V.d) 28))], [1000, 3]⟩) (fun x4 => ref03_Mark_31b_k1 self t depth x4) r ?_ (fun x4 h => ?_)
  ·refine rg pg ?_
   refine gwT h (fun h hb1 => ?_) (fun h hb1 => ?_)
   ·refine gl rfl ?_
    refine gl rfl ?_
    refine gl rfl ?_
    refine cd h rfl (fun h hb2 => ?_) (fun h hb2 => ?_)
    ·refine rl pg ?_
     refine MSetW.mk (dMap_set (ev := vB) beI o0 (w64 (t.index - depth)) true) ?_
     exact jt (mset o0 (w64 (t.index - depth)) true) h rfl rfl rfl
    ·refine sk ?_
     exact jt o0 h rfl rfl rfl
   ·refine gf rfl ?_
    refine gf rfl ?_
    refine gf rfl ?_
    refine cdF rfl ?_
    refine sk ?_
    exact jt o0 h rfl rfl rfl
  ·refine rg pg ?_
   refine LenW.mk (dTms_len _) ?_
   refine rangeK (X := (List (Int × Bool))) pg t.args _ rfl (fun x9 => [(1, .d (.int .i64 depth)), (2, .map 1000), (3, .ptr 3 0), (23, .d (.slice (dTms t.args)))]) (fun x9 => [(1000, some (.map ⟨1, dMap kI vB x9⟩)), (3, some (.cells ((dTm t).map V.d) 28))]) [1000, 3] h rfl rfl rfl rfl (fun _ => ⟨rfl, rfl⟩) 23 rfl (dTms_len _) (fun k6 i7 a5 x9 _ g8 h => ?_) (fun x9 h => ?_)
   ·refine rg pg ?_
    refine IdxW.mk (Int.natCast_nonneg _) (dTms_get g8) rfl ?_
    refine rld pg ?_
    obtain ⟨r21, h22, h⟩ := bndB h
    refine callW0 (ref03_below_ev h22) rfl ?_
    obtain ⟨r23, h24, h⟩ := bndB h
    refine callW [(1000, 1000)] (hs h24) rfl rfl rfl rfl rfl ?_
    refine Ask.mk (by kernel_rfl) ?_
    exact jt r23 h rfl rfl rfl
   ·obtain rfl := Option.some.inj h
    exact enN rfl rfl
theorem ref03_Mark_31b_me : ∀ (m : Nat) {t : Trm} {depth : Int} {o0 : List (Int × Bool)} {r : (List (Int × Bool))}, ref03_Mark_31b_m m t depth o0 = some r → Ev Tryz.prog GL 47 [.agg ((dTm t).map V.d), .d (.int .i64 depth), .map 1000] [(1000, .map ⟨1, dMap kI vB o0⟩)] (.tup []) [(1000, .map ⟨1, dMap kI vB r⟩)]
  | 0, _, _, _, _, h => nomatch (show none = some _ from h)
  | m + 1, _, _, _, _, h => ref03_Mark_31b_be (ref03_Mark_31b_m m) (fun h => ref03_Mark_31b_me m h) h
theorem ref03_Mark_31b_ev {t : Trm} {depth : Int} {o0 : List (Int × Bool)} {r : (List (Int × Bool))} (h : ref03_Mark_31b t depth o0 = some r) : Ev Tryz.prog GL 47 [.agg ((dTm t).map V.d), .d (.int .i64 depth), .map 1000] [(1000, .map ⟨1, dMap kI vB o0⟩)] (.tup []) [(1000, .map ⟨1, dMap kI vB r⟩)] := ref03_Mark_31b_me FU h
theorem ref03_Uses_ev {t : Trm} {r : List Int × Int} (h : ref03_Uses t = some r) : Ev Tryz.prog GL 12 [.agg ((dTm t).map V.d)] [] (.tup [.d (.slice (dInts r.1)), .d (.int .i64 r.2)]) [] := by
  refine evb pg Tryz.func12 rfl (by kernel_rfl) 17 [.tmp 2, .tmp 3] rfl rfl rfl (fun E ι0 => ?_)
  refine rg pg ?_
  refine sq ?_
  refine rg pg ?_
  obtain ⟨r1, h2, h⟩ := bndB h
  refine callW0 (ref02_Check_ev h2) rfl ?_
  refine rg pg ?_
  refine cd h rfl (fun h hb3 => ?_) (fun h hb3 => ?_)
  ·refine rg pg ?_
   refine rt ?_
   obtain rfl := Option.some.inj h
   exact en rfl rfl
  ·refine sk ?_
   refine rg pg ?_
   refine rg pg ?_
   obtain ⟨r4, h5, h⟩ := bndB h
   refine callW [(1000, 11)] (ref03_Mark_31b_ev h5) rfl rfl rfl rfl rfl ?_
   refine rg pg ?_
   obtain ⟨r6, h7, h⟩ := bndB h
   refine callW [(1000, 11)] (ref03_Sorted_ev h7) rfl rfl rfl rfl rfl ?_
   refine rt ?_
   obtain rfl := Option.some.inj h
   exact en rfl rfl
theorem subst_Closed_ev {t : Trm} {r : Bool × Int} (h : subst_Closed t = some r) : Ev Tryz.prog GL 13 [.agg ((dTm t).map V.d)] [] (.tup [.d (.bool r.1), .d (.int .i64 r.2)]) [] := by
  refine evb pg Tryz.func13 rfl (by kernel_rfl) 19 [.tmp 2, .tmp 3] rfl rfl rfl (fun E ι0 => ?_)
  refine rg pg ?_
  refine rg pg ?_
  obtain ⟨r1, h2, h⟩ := bndB h
  refine callW0 (subst_Uses_ev h2) rfl ?_
  refine rg pg ?_
  refine gwT h (fun h hb3 => ?_) (fun h hb3 => ?_)
  ·refine gl rfl ?_
   refine LenW.mk (dInts_len _) ?_
   refine gl rfl ?_
   refine rt ?_
   obtain rfl := Option.some.inj h
   exact en rfl rfl
  ·refine gf rfl ?_
   refine gf rfl ?_
   refine rt ?_
   obtain rfl := Option.some.inj h
   exact en rfl rfl
theorem ref03_Closed_ev {t : Trm} {r : Bool × Int} (h : ref03_Closed t = some r) : Ev Tryz.prog GL 14 [.agg ((dTm t).map V.d)] [] (.tup [.d (.bool r.1), .d (.int .i64 r.2)]) [] := by
  refine evb pg Tryz.func14 rfl (by kernel_rfl) 19 [.tmp 2, .tmp 3] rfl rfl rfl (fun E ι0 => ?_)
  refine rg pg ?_
  refine rg pg ?_
  obtain ⟨r1, h2, h⟩ := bndB h
  refine callW0 (ref03_Uses_ev h2) rfl ?_
  refine rg pg ?_
  refine gwT h (fun h hb3 => ?_) (fun h hb3 => ?_)
  ·refine gl rfl ?_
   refine LenW.mk (dInts_len _) ?_
   refine gl rfl ?_
   refine rt ?_
   obtain rfl := Option.some.inj h
   exact en rfl rfl
  ·refine gf rfl ?_
   refine gf rfl ?_
   refine rt ?_
   obtain rfl := Option.some.inj h
   exact en rfl rfl
theorem law03_ints_ev {a : List Int} {b : List Int} {r : Bool} (h : law03_ints a b = some r) : Ev Tryz.prog GL 15 [.d (.slice (dInts a)), .d (.slice (dInts b))] [] (.d (.bool r)) [] := by
  refine evb pg Tryz.func15 rfl (by kernel_rfl) 26 [.tmp 4] rfl rfl rfl (fun E ι0 => ?_)
  refine rg pg ?_
  refine sq ?_
  refine rg pg ?_
  refine LenW.mk (dInts_len _) ?_
  refine LenW.mk (dInts_len _) ?_
  refine cd h rfl (fun h hb1 => ?_) (fun h hb1 => ?_)
  ·refine rg pg ?_
   refine rt ?_
   obtain rfl := Option.some.inj h
   exact en rfl rfl
  ·refine sk ?_
   refine sq ?_
   refine rg pg ?_
   refine LenW.mk (dInts_len _) ?_
   refine rangeK (X := Unit) pg a _ rfl (fun x6 => [(0, .d (.slice (dInts a))), (1, .d (.slice (dInts b)))]) (fun x6 => []) [] h rfl rfl rfl rfl (fun _ => ⟨rfl, rfl⟩) 0 rfl (dInts_len _) (fun k3 i4 a2 x6 _ g5 h => ?_) (fun x6 h => ?_)
   ·refine rg pg ?_
    refine rgd pg ?_
    refine IdxW.mk (Int.natCast_nonneg _) (dInts_get g5) rfl ?_
    obtain ⟨a11, p12, g13, h⟩ := idxB h
    refine IdxW.mk p12 (dInts_get g13) rfl ?_
    refine Ask.mk (by kernel_rfl) ?_
    refine cd h rfl (fun h hb14 => ?_) (fun h hb14 => ?_)
    ·refine rg pg ?_
     refine rt ?_
     obtain rfl := Option.some.inj h
     exact en rfl rfl
    ·refine sk ?_
     exact jt () h rfl rfl rfl
   ·refine rg pg ?_
    refine rt ?_
    obtain rfl := Option.some.inj h
    exact en rfl rfl
theorem subst_Lift_ev {t : Trm} {from_ : Int} {by_ : Int} {r : Trm × Int} (h : subst_Lift t from_ by_ = some r) : Ev Tryz.prog GL 17 [.agg ((dTm t).map V.d), .d (.int .i64 from_), .d (.int .i64 by_)] [] (.tup [.agg ((dTm r.1).map V.d), .d (.int .i64 r.2)]) [] := by
  refine evb pg Tryz.func17 rfl (by kernel_rfl) 33 [.cell 6 28, .tmp 7] rfl rfl rfl (fun E ι0 => ?_)
  refine rg pg ?_
  refine sq ?_
  refine rg pg ?_
  obtain ⟨r1, h2, h⟩ := bndB h
  refine callW0 (terms_Check_ev h2) rfl ?_
  refine rg pg ?_
  refine cd h rfl (fun h hb3 => ?_) (fun h hb3 => ?_)
  ·refine rg pg ?_
   refine rt ?_
   obtain rfl := Option.some.inj h
   exact en rfl rfl
  ·refine sk ?_
   refine sq ?_
   refine rg pg ?_
   obtain ⟨r4, h5, h⟩ := bndB h
   refine callW0 (subst_within_ev h5) rfl ?_
   refine gwF h (fun h hb6 => ?_) (fun h hb6 => ?_)
   ·refine gf rfl ?_
    refine gf rfl ?_
    refine gf rfl ?_
    refine gf rfl ?_
    refine gf rfl ?_
    refine cdT rfl ?_
    refine rg pg ?_
    refine rt ?_
    obtain rfl := Option.some.inj h
    exact en rfl rfl
   ·refine gl rfl ?_
    obtain ⟨r7, h8, h⟩ := bndB h
    refine callW0 (subst_within_ev h8) rfl ?_
    refine gl rfl ?_
    refine gwF h (fun h hb9 => ?_) (fun h hb9 => ?_)
    ·refine gf rfl ?_
     refine gf rfl ?_
     refine cdT rfl ?_
     refine rg pg ?_
     refine rt ?_
     obtain rfl := Option.some.inj h
     exact en rfl rfl
    ·refine gl rfl ?_
     obtain ⟨r10, h11, h⟩ := bndB h
     refine callW0 (tree_Near_ev h11) rfl ?_
     refine gl rfl ?_
     refine cd h rfl (fun h hb12 => ?_) (fun h hb12 => ?_)
     ·refine rg pg ?_
      refine rt ?_
      obtain rfl := Option.some.inj h
      exact en rfl rfl
     ·refine sk ?_
      refine rg pg ?_
      obtain ⟨r13, h14, h⟩ := bndB h
      refine callW0 (tree_Lift_ev h14) rfl ?_
      refine rt ?_
      obtain rfl := Option.some.inj h
      exact en rfl rfl
theorem ref03_Least_be (self : Trm → Int → Option (Bool)) (hs : ∀ {t : Trm} {most : Int} {r : Bool}, self t most = some r → Ev Tryz.prog GL 52 [.agg ((dTm t).map V.d), .d (.int .i64 most)] [] (.d (.bool r)) []) {t : Trm} {most : Int} {r : Bool} (h : ref03_Least_b self t most = some r) : Ev Tryz.prog GL 52 [.agg ((dTm t).map V.d), .d (.int .i64 most)] [] (.d (.bool r)) [] := by
  refine evb pg Tryz.func52 rfl (by kernel_rfl) 23 [.tmp 4] rfl rfl rfl (fun E ι0 => ?_)
  refine rg pg ?_
  refine sq ?_
  refine rg pg ?_
  refine cd h rfl (fun h hb1 => ?_) (fun h hb1 => ?_)
  ·refine rg pg ?_
   refine rt ?_
   obtain rfl := Option.some.inj h
   exact en rfl rfl
  ·refine sk ?_
   refine sq ?_
   refine rg pg ?_
   refine LenW.mk (dTms_len _) ?_
   refine rangeK (X := Unit) pg t.args _ rfl (fun x6 => [(1, .d (.int .i64 most)), (12, .d (.slice (dTms t.args)))]) (fun x6 => []) [] h rfl rfl rfl rfl (fun _ => ⟨rfl, rfl⟩) 12 rfl (dTms_len _) (fun k3 i4 a2 x6 _ g5 h => ?_) (fun x6 h => ?_)
   ·refine rg pg ?_
    refine IdxW.mk (Int.natCast_nonneg _) (dTms_get g5) rfl ?_
    refine rg pg ?_
    obtain ⟨r10, h11, h⟩ := bndB h
    refine callW0 (hs h11) rfl ?_
    refine cd h rfl (fun h hb12 => ?_) (fun h hb12 => ?_)
    ·refine rg pg ?_
     refine rt ?_
     obtain rfl := Option.some.inj h
     exact en rfl rfl
    ·refine sk ?_
     exact jt () h rfl rfl rfl
   ·refine rg pg ?_
    refine rt ?_
    obtain rfl := Option.some.inj h
    exact en rfl rfl
theorem ref03_Least_me : ∀ (m : Nat) {t : Trm} {most : Int} {r : Bool}, ref03_Least_m m t most = some r → Ev Tryz.prog GL 52 [.agg ((dTm t).map V.d), .d (.int .i64 most)] [] (.d (.bool r)) []
  | 0, _, _, _, h => nomatch (show none = some _ from h)
  | m + 1, _, _, _, h => ref03_Least_be (ref03_Least_m m) (fun h => ref03_Least_me m h) h
theorem ref03_Least_ev {t : Trm} {most : Int} {r : Bool} (h : ref03_Least t most = some r) : Ev Tryz.prog GL 52 [.agg ((dTm t).map V.d), .d (.int .i64 most)] [] (.d (.bool r)) [] := ref03_Least_me FU h
theorem ref03_Up_be (self : Trm → Int → Int → Option (Trm)) (hs : ∀ {t : Trm} {from_ : Int} {by_ : Int} {r : Trm}, self t from_ by_ = some r → Ev Tryz.prog GL 54 [.agg ((dTm t).map V.d), .d (.int .i64 from_), .d (.int .i64 by_)] [] (.agg ((dTm r).map V.d)) []) {t : Trm} {from_ : Int} {by_ : Int} {r : Trm} (h : ref03_Up_b self t from_ by_ = some r) : Ev Tryz.prog GL 54 [.agg ((dTm t).map V.d), .d (.int .i64 from_), .d (.int .i64 by_)] [] (.agg ((dTm r).map V.d)) [] := by
  refine evb pg Tryz.func54 rfl (by kernel_rfl) 52 [.cell 6 28] rfl rfl rfl (fun E ι0 => ?_)
  refine rg pg ?_
  refine rg pg ?_
  refine join (fun x4 : Int => ⟨[(1, .d (.int .i64 from_)), (2, .d (.int .i64 by_)), (3, .ptr 3 0), (6, .ptr 6 0), (7, .ptr 7 0)], [(3, some (.cells ((dTm t).map V.d) 28)), (6, some (.cells [.d (.int .i64 0), .d (.int .i64 0), .d (.int .i64 0), .d .nils, .d .nils] 28)), (7, some (.cells [.d (.int .i64 t.kind), .d (.int .i64 x4), .d (.int .i64 t.ty.kind), .d (.slice (dTys t.ty.args)), .d .nils] 28))], [3, 6, 7]⟩) (fun x4 => ref03_Up_k1 self t from_ by_ x4) r ?_ (fun x4 h => ?_)
  ·refine rg pg ?_
   refine gwT h (fun h hb1 => ?_) (fun h hb1 => ?_)
   ·refine gl rfl ?_
    refine gl rfl ?_
    refine gl rfl ?_
    refine cd h rfl (fun h hb2 => ?_) (fun h hb2 => ?_)
    ·refine rl pg ?_
     exact jt (w64 (t.index + by_)) h rfl rfl rfl
    ·refine sk ?_
     exact jt t.index h rfl rfl rfl
   ·refine gf rfl ?_
    refine gf rfl ?_
    refine gf rfl ?_
    refine cdF rfl ?_
    refine sk ?_
    exact jt t.index h rfl rfl rfl
  ·refine sq ?_
   refine rg pg ?_
   refine LenW.mk (dTms_len _) ?_
   refine wrcN 201 7 4 5 28 rfl rfl rfl ?_
   refine rangeK (X := List Trm) pg t.args _ rfl (fun x9 => [(1, .d (.int .i64 from_)), (2, .d (.int .i64 by_)), (3, .ptr 3 0), (6, .ptr 6 0), (7, .ptr 7 0), (32, .d (.slice (dTms t.args)))]) (fun x9 => [(3, some (.cells ((dTm t).map V.d) 28)), (6, some (.cells [.d (.int .i64 0), .d (.int .i64 0), .d (.int .i64 0), .d .nils, .d .nils] 28)), (7, some (.cells [.d (.int .i64 t.kind), .d (.int .i64 x4), .d (.int .i64 t.ty.kind), .d (.slice (dTys t.ty.args)), .own (dTms x9) 201] 28)), (201, some (.row (dTms x9).length 5 28))]) [3, 6, 7, 201] h rfl rfl rfl rfl (fun _ => ⟨rfl, rfl⟩) 32 rfl (dTms_len _) (fun k6 i7 a5 x9 _ g8 h => ?_) (fun x9 h => ?_)
   ·refine rg pg ?_
    refine IdxW.mk (Int.natCast_nonneg _) (dTms_get g8) rfl ?_
    refine rld pg ?_
    obtain ⟨r28, h29, h⟩ := bndB h
    refine callW0 (ref03_below_ev h29) rfl ?_
    obtain ⟨r30, h31, h⟩ := bndB h
    refine callW0 (hs h31) rfl ?_
    refine Ask.mk ⟨rfl, rfl⟩ (BsW.mk (dTms_map [r30]).symm (dTms_sz _) ?_)
    obtain ⟨p32, h⟩ := gdB h
    refine Ask.mk ⟨rfl, rfl, rfl⟩ (AppW.mk (dTms_app _ _) (dTms_sz _) (dTms_sz _) (by rw [dTms_len, dTms_len]; exact p32) ?_)
    refine Ask.mk (by kernel_rfl) ?_
    exact jt (x9 ++ [r30]) h rfl rfl rfl
   ·refine rg pg ?_
    refine rt ?_
    obtain rfl := Option.some.inj h
    exact en rfl rfl
theorem ref03_Up_me : ∀ (m : Nat) {t : Trm} {from_ : Int} {by_ : Int} {r : Trm}, ref03_Up_m m t from_ by_ = some r → Ev Tryz.prog GL 54 [.agg ((dTm t).map V.d), .d (.int .i64 from_), .d (.int .i64 by_)] [] (.agg ((dTm r).map V.d)) []
  | 0, _, _, _, _, h => nomatch (show none = some _ from h)
  | m + 1, _, _, _, _, h => ref03_Up_be (ref03_Up_m m) (fun h => ref03_Up_me m h) h
theorem ref03_Up_ev {t : Trm} {from_ : Int} {by_ : Int} {r : Trm} (h : ref03_Up t from_ by_ = some r) : Ev Tryz.prog GL 54 [.agg ((dTm t).map V.d), .d (.int .i64 from_), .d (.int .i64 by_)] [] (.agg ((dTm r).map V.d)) [] := ref03_Up_me FU h
theorem ref03_Lift_ev {t : Trm} {from_ : Int} {by_ : Int} {r : Trm × Int} (h : ref03_Lift t from_ by_ = some r) : Ev Tryz.prog GL 18 [.agg ((dTm t).map V.d), .d (.int .i64 from_), .d (.int .i64 by_)] [] (.tup [.agg ((dTm r.1).map V.d), .d (.int .i64 r.2)]) [] := by
  refine evb pg Tryz.func18 rfl (by kernel_rfl) 40 [.cell 6 28, .tmp 7] rfl rfl rfl (fun E ι0 => ?_)
  refine rg pg ?_
  refine sq ?_
  refine rg pg ?_
  obtain ⟨r1, h2, h⟩ := bndB h
  refine callW0 (ref02_Check_ev h2) rfl ?_
  refine rg pg ?_
  refine cd h rfl (fun h hb3 => ?_) (fun h hb3 => ?_)
  ·refine rg pg ?_
   refine rt ?_
   obtain rfl := Option.some.inj h
   exact en rfl rfl
  ·refine sk ?_
   refine sq ?_
   refine rg pg ?_
   refine gwF h (fun h hb4 => ?_) (fun h hb4 => ?_)
   ·refine gf rfl ?_
    refine gf rfl ?_
    refine gf rfl ?_
    refine gf rfl ?_
    refine gf rfl ?_
    refine gf rfl ?_
    refine gf rfl ?_
    refine gf rfl ?_
    refine cdT rfl ?_
    refine rg pg ?_
    refine rt ?_
    obtain rfl := Option.some.inj h
    exact en rfl rfl
   ·refine gl rfl ?_
    refine gwF h (fun h hb5 => ?_) (fun h hb5 => ?_)
    ·refine gf rfl ?_
     refine gf rfl ?_
     refine gf rfl ?_
     refine gf rfl ?_
     refine gf rfl ?_
     refine gf rfl ?_
     refine cdT rfl ?_
     refine rg pg ?_
     refine rt ?_
     obtain rfl := Option.some.inj h
     exact en rfl rfl
    ·refine gl rfl ?_
     refine gwF h (fun h hb6 => ?_) (fun h hb6 => ?_)
     ·refine gf rfl ?_
      refine gf rfl ?_
      refine gf rfl ?_
      refine gf rfl ?_
      refine cdT rfl ?_
      refine rg pg ?_
      refine rt ?_
      obtain rfl := Option.some.inj h
      exact en rfl rfl
     ·refine gl rfl ?_
      refine gwF h (fun h hb7 => ?_) (fun h hb7 => ?_)
      ·refine gf rfl ?_
       refine gf rfl ?_
       refine cdT rfl ?_
       refine rg pg ?_
       refine rt ?_
       obtain rfl := Option.some.inj h
       exact en rfl rfl
      ·refine gl rfl ?_
       obtain ⟨r8, h9, h⟩ := bndB h
       refine callW0 (ref03_Least_ev h9) rfl ?_
       refine gl rfl ?_
       refine cd h rfl (fun h hb10 => ?_) (fun h hb10 => ?_)
       ·refine rg pg ?_
        refine rt ?_
        obtain rfl := Option.some.inj h
        exact en rfl rfl
       ·refine sk ?_
        refine rg pg ?_
        obtain ⟨r11, h12, h⟩ := bndB h
        refine callW0 (ref03_Up_ev h12) rfl ?_
        obtain ⟨r13, h14, h⟩ := bndB h
        refine callW0 (ref02_Copy_ev h14) rfl ?_
        refine rt ?_
        obtain rfl := Option.some.inj h
        exact en rfl rfl
theorem subst_Lower_ev {t : Trm} {at_ : Int} {r : Trm × Int} (h : subst_Lower t at_ = some r) : Ev Tryz.prog GL 19 [.agg ((dTm t).map V.d), .d (.int .i64 at_)] [] (.tup [.agg ((dTm r.1).map V.d), .d (.int .i64 r.2)]) [] := by
  refine evb pg Tryz.func19 rfl (by kernel_rfl) 26 [.cell 4 28, .tmp 5] rfl rfl rfl (fun E ι0 => ?_)
  refine rg pg ?_
  refine sq ?_
  refine rg pg ?_
  obtain ⟨r1, h2, h⟩ := bndB h
  refine callW0 (terms_Check_ev h2) rfl ?_
  refine rg pg ?_
  refine cd h rfl (fun h hb3 => ?_) (fun h hb3 => ?_)
  ·refine rg pg ?_
   refine rt ?_
   obtain rfl := Option.some.inj h
   exact en rfl rfl
  ·refine sk ?_
   refine sq ?_
   refine rg pg ?_
   obtain ⟨r4, h5, h⟩ := bndB h
   refine callW0 (subst_within_ev h5) rfl ?_
   refine cd h rfl (fun h hb6 => ?_) (fun h hb6 => ?_)
   ·refine rg pg ?_
    refine rt ?_
    obtain rfl := Option.some.inj h
    exact en rfl rfl
   ·refine sk ?_
    refine sq ?_
    refine rg pg ?_
    obtain ⟨r7, h8, h⟩ := bndB h
    refine callW0 (tree_Count_ev h8) rfl ?_
    refine cd h rfl (fun h hb9 => ?_) (fun h hb9 => ?_)
    ·refine rg pg ?_
     refine rt ?_
     obtain rfl := Option.some.inj h
     exact en rfl rfl
    ·refine sk ?_
     refine rg pg ?_
     obtain ⟨r10, h11, h⟩ := bndB h
     refine callW0 (tree_Put_ev h11) rfl ?_
     refine rt ?_
     obtain rfl := Option.some.inj h
     exact en rfl rfl
theorem ref03_Has_be (self : Trm → Int → Option (Bool)) (hs : ∀ {t : Trm} {at_ : Int} {r : Bool}, self t at_ = some r → Ev Tryz.prog GL 57 [.agg ((dTm t).map V.d), .d (.int .i64 at_)] [] (.d (.bool r)) []) {t : Trm} {at_ : Int} {r : Bool} (h : ref03_Has_b self t at_ = some r) : Ev Tryz.prog GL 57 [.agg ((dTm t).map V.d), .d (.int .i64 at_)] [] (.d (.bool r)) [] := by
  refine evb pg Tryz.func57 rfl (by kernel_rfl) 30 [.tmp 4] rfl rfl rfl (fun E ι0 => ?_)
  refine rg pg ?_
  refine join (fun x3 : Unit => ⟨[(1, .d (.int .i64 at_)), (2, .ptr 2 0)], [(2, some (.cells ((dTm t).map V.d) 28))], [2]⟩) (fun x3 => ref03_Has_k1 self t at_ x3) r ?_ (fun x3 h => ?_)
  ·refine rg pg ?_
   refine gwT h (fun h hb1 => ?_) (fun h hb1 => ?_)
   ·refine gl rfl ?_
    refine gl rfl ?_
    refine gl rfl ?_
    refine cd h rfl (fun h hb2 => ?_) (fun h hb2 => ?_)
    ·refine rg pg ?_
     refine rt ?_
     obtain rfl := Option.some.inj h
     exact en rfl rfl
    ·refine sk ?_
     exact jt () h rfl rfl rfl
   ·refine gf rfl ?_
    refine gf rfl ?_
    refine gf rfl ?_
    refine cdF rfl ?_
    refine sk ?_
    exact jt () h rfl rfl rfl
  ·refine sq ?_
   refine rg pg ?_
   refine LenW.mk (dTms_len _) ?_
   refine rangeK (X := Unit) pg t.args _ rfl (fun x8 => [(1, .d (.int .i64 at_)), (2, .ptr 2 0), (17, .d (.slice (dTms t.args)))]) (fun x8 => [(2, some (.cells ((dTm t).map V.d) 28))]) [2] h rfl rfl rfl rfl (fun _ => ⟨rfl, rfl⟩) 17 rfl (dTms_len _) (fun k5 i6 a4 x8 _ g7 h => ?_) (fun x8 h => ?_)
   ·refine rg pg ?_
    refine IdxW.mk (Int.natCast_nonneg _) (dTms_get g7) rfl ?_
    refine rgd pg ?_
    obtain ⟨r14, h15, h⟩ := bndB h
    refine callW0 (ref03_below_ev h15) rfl ?_
    obtain ⟨r16, h17, h⟩ := bndB h
    refine callW0 (hs h17) rfl ?_
    refine Ask.mk (by kernel_rfl) ?_
    refine cd h rfl (fun h hb18 => ?_) (fun h hb18 => ?_)
    ·refine rg pg ?_
     refine rt ?_
     obtain rfl := Option.some.inj h
     exact en rfl rfl
    ·refine sk ?_
     exact jt () h rfl rfl rfl
   ·refine rg pg ?_
    refine rt ?_
    obtain rfl := Option.some.inj h
    exact en rfl rfl
theorem ref03_Has_me : ∀ (m : Nat) {t : Trm} {at_ : Int} {r : Bool}, ref03_Has_m m t at_ = some r → Ev Tryz.prog GL 57 [.agg ((dTm t).map V.d), .d (.int .i64 at_)] [] (.d (.bool r)) []
  | 0, _, _, _, h => nomatch (show none = some _ from h)
  | m + 1, _, _, _, h => ref03_Has_be (ref03_Has_m m) (fun h => ref03_Has_me m h) h
theorem ref03_Has_ev {t : Trm} {at_ : Int} {r : Bool} (h : ref03_Has t at_ = some r) : Ev Tryz.prog GL 57 [.agg ((dTm t).map V.d), .d (.int .i64 at_)] [] (.d (.bool r)) [] := ref03_Has_me FU h
theorem ref03_Lower_ev {t : Trm} {at_ : Int} {r : Trm × Int} (h : ref03_Lower t at_ = some r) : Ev Tryz.prog GL 20 [.agg ((dTm t).map V.d), .d (.int .i64 at_)] [] (.tup [.agg ((dTm r.1).map V.d), .d (.int .i64 r.2)]) [] := by
  refine evb pg Tryz.func20 rfl (by kernel_rfl) 29 [.cell 4 28, .tmp 5] rfl rfl rfl (fun E ι0 => ?_)
  refine rg pg ?_
  refine sq ?_
  refine rg pg ?_
  obtain ⟨r1, h2, h⟩ := bndB h
  refine callW0 (ref02_Check_ev h2) rfl ?_
  refine rg pg ?_
  refine cd h rfl (fun h hb3 => ?_) (fun h hb3 => ?_)
  ·refine rg pg ?_
   refine rt ?_
   obtain rfl := Option.some.inj h
   exact en rfl rfl
  ·refine sk ?_
   refine sq ?_
   refine rg pg ?_
   refine gwF h (fun h hb4 => ?_) (fun h hb4 => ?_)
   ·refine gf rfl ?_
    refine cdT rfl ?_
    refine rg pg ?_
    refine rt ?_
    obtain rfl := Option.some.inj h
    exact en rfl rfl
   ·refine gl rfl ?_
    refine cd h rfl (fun h hb5 => ?_) (fun h hb5 => ?_)
    ·refine rg pg ?_
     refine rt ?_
     obtain rfl := Option.some.inj h
     exact en rfl rfl
    ·refine sk ?_
     refine sq ?_
     refine rg pg ?_
     obtain ⟨r6, h7, h⟩ := bndB h
     refine callW0 (ref03_Has_ev h7) rfl ?_
     refine cd h rfl (fun h hb8 => ?_) (fun h hb8 => ?_)
     ·refine rg pg ?_
      refine rt ?_
      obtain rfl := Option.some.inj h
      exact en rfl rfl
     ·refine sk ?_
      refine rg pg ?_
      obtain ⟨r9, h10, h⟩ := bndB h
      refine callW0 (ref03_Up_ev h10) rfl ?_
      obtain ⟨r11, h12, h⟩ := bndB h
      refine callW0 (ref02_Copy_ev h12) rfl ?_
      refine rt ?_
      obtain rfl := Option.some.inj h
      exact en rfl rfl
theorem ref03_Times_be (self : Trm → Int → Option (Int)) (hs : ∀ {t : Trm} {at_ : Int} {r : Int}, self t at_ = some r → Ev Tryz.prog GL 60 [.agg ((dTm t).map V.d), .d (.int .i64 at_)] [] (.d (.int .i64 r)) []) {t : Trm} {at_ : Int} {r : Int} (h : ref03_Times_b self t at_ = some r) : Ev Tryz.prog GL 60 [.agg ((dTm t).map V.d), .d (.int .i64 at_)] [] (.d (.int .i64 r)) [] := by
  refine evb pg Tryz.func60 rfl (by kernel_rfl) 36 [.tmp 4] rfl rfl rfl (fun E ι0 => ?_)
  refine rg pg ?_
  refine rg pg ?_
  refine join (fun x4 : Int => ⟨[(1, .d (.int .i64 at_)), (2, .ptr 2 0), (5, .d (.int .i64 x4))], [(2, some (.cells ((dTm t).map V.d) 28))], [2]⟩) (fun x4 => ref03_Times_k1 self t at_ x4) r ?_ (fun x4 h => ?_)
  ·refine rg pg ?_
   refine gwT h (fun h hb1 => ?_) (fun h hb1 => ?_)
   ·refine gl rfl ?_
    refine gl rfl ?_
    refine gl rfl ?_
    refine cd h rfl (fun h hb2 => ?_) (fun h hb2 => ?_)
    ·refine rl pg ?_
     exact jt (w64 (0 + 1)) h rfl rfl rfl
    ·refine sk ?_
     exact jt 0 h rfl rfl rfl
   ·refine gf rfl ?_
    refine gf rfl ?_
    refine gf rfl ?_
    refine cdF rfl ?_
    refine sk ?_
    exact jt 0 h rfl rfl rfl
  ·refine sq ?_
   refine rg pg ?_
   refine LenW.mk (dTms_len _) ?_
   refine rangeK (X := Int) pg t.args _ rfl (fun x9 => [(1, .d (.int .i64 at_)), (2, .ptr 2 0), (5, .d (.int .i64 x9)), (20, .d (.slice (dTms t.args)))]) (fun x9 => [(2, some (.cells ((dTm t).map V.d) 28))]) [2] h rfl rfl rfl rfl (fun _ => ⟨rfl, rfl⟩) 20 rfl (dTms_len _) (fun k6 i7 a5 x9 _ g8 h => ?_) (fun x9 h => ?_)
   ·refine rg pg ?_
    refine IdxW.mk (Int.natCast_nonneg _) (dTms_get g8) rfl ?_
    refine rld pg ?_
    obtain ⟨r21, h22, h⟩ := bndB h
    refine callW0 (ref03_below_ev h22) rfl ?_
    obtain ⟨r23, h24, h⟩ := bndB h
    refine callW0 (hs h24) rfl ?_
    refine Ask.mk (by kernel_rfl) ?_
    exact jt (w64 (x9 + r23)) h rfl rfl rfl
   ·refine rg pg ?_
    refine rt ?_
    obtain rfl := Option.some.inj h
    exact en rfl rfl
theorem ref03_Times_me : ∀ (m : Nat) {t : Trm} {at_ : Int} {r : Int}, ref03_Times_m m t at_ = some r → Ev Tryz.prog GL 60 [.agg ((dTm t).map V.d), .d (.int .i64 at_)] [] (.d (.int .i64 r)) []
  | 0, _, _, _, h => nomatch (show none = some _ from h)
  | m + 1, _, _, _, h => ref03_Times_be (ref03_Times_m m) (fun h => ref03_Times_me m h) h
theorem ref03_Times_ev {t : Trm} {at_ : Int} {r : Int} (h : ref03_Times t at_ = some r) : Ev Tryz.prog GL 60 [.agg ((dTm t).map V.d), .d (.int .i64 at_)] [] (.d (.int .i64 r)) [] := ref03_Times_me FU h
theorem ref03_In_be (self : Trm → Int → Int → Trm → Option (Trm)) (hs : ∀ {t : Trm} {at_ : Int} {depth : Int} {s : Trm} {r : Trm}, self t at_ depth s = some r → Ev Tryz.prog GL 61 [.agg ((dTm t).map V.d), .d (.int .i64 at_), .d (.int .i64 depth), .agg ((dTm s).map V.d)] [] (.agg ((dTm r).map V.d)) []) {t : Trm} {at_ : Int} {depth : Int} {s : Trm} {r : Trm} (h : ref03_In_b self t at_ depth s = some r) : Ev Tryz.prog GL 61 [.agg ((dTm t).map V.d), .d (.int .i64 at_), .d (.int .i64 depth), .agg ((dTm s).map V.d)] [] (.agg ((dTm r).map V.d)) [] := by
  refine evb pg Tryz.func61 rfl (by kernel_rfl) 66 [.cell 8 28] rfl rfl rfl (fun E ι0 => ?_)
  refine rg pg ?_
  refine sq ?_
  refine rg pg ?_
  refine cd h rfl (fun h hb1 => ?_) (fun h hb1 => ?_)
  ·refine sq ?_
   refine rg pg ?_
   refine cd h rfl (fun h hb2 => ?_) (fun h hb2 => ?_)
   ·refine rg pg ?_
    obtain ⟨r3, h4, h⟩ := bndB h
    refine callW0 (ref03_Up_ev h4) rfl ?_
    refine rt ?_
    obtain rfl := Option.some.inj h
    exact en rfl rfl
   ·refine sk ?_
    refine sq ?_
    refine rg pg ?_
    refine cd h rfl (fun h hb5 => ?_) (fun h hb5 => ?_)
    ·refine rg pg ?_
     obtain ⟨r6, h7, h⟩ := bndB h
     refine callW0 (ref02_Var_ev h7) rfl ?_
     refine rt ?_
     obtain rfl := Option.some.inj h
     exact en rfl rfl
    ·refine sk ?_
     refine rg pg ?_
     refine rt ?_
     obtain rfl := Option.some.inj h
     exact en rfl rfl
  ·refine sk ?_
   refine rg pg ?_
   refine sq ?_
   refine rg pg ?_
   refine LenW.mk (dTms_len _) ?_
   refine wrcN 201 9 4 5 28 rfl rfl rfl ?_
   refine rangeK (X := List Trm) pg t.args _ rfl (fun x12 => [(1, .d (.int .i64 at_)), (2, .d (.int .i64 depth)), (4, .ptr 4 0), (7, .ptr 7 0), (8, .ptr 8 0), (9, .ptr 9 0), (45, .d (.slice (dTms t.args)))]) (fun x12 => [(4, some (.cells ((dTm t).map V.d) 28)), (7, some (.cells ((dTm s).map V.d) 28)), (8, some (.cells [.d (.int .i64 0), .d (.int .i64 0), .d (.int .i64 0), .d .nils, .d .nils] 28)), (9, some (.cells [.d (.int .i64 t.kind), .d (.int .i64 t.index), .d (.int .i64 t.ty.kind), .d (.slice (dTys t.ty.args)), .own (dTms x12) 201] 28)), (201, some (.row (dTms x12).length 5 28))]) [4, 7, 8, 9, 201] h rfl rfl rfl rfl (fun _ => ⟨rfl, rfl⟩) 45 rfl (dTms_len _) (fun k9 i10 a8 x12 _ g11 h => ?_) (fun x12 h => ?_)
   ·refine rg pg ?_
    refine IdxW.mk (Int.natCast_nonneg _) (dTms_get g11) rfl ?_
    refine rld pg ?_
    obtain ⟨r31, h32, h⟩ := bndB h
    refine callW0 (ref03_below_ev h32) rfl ?_
    obtain ⟨r33, h34, h⟩ := bndB h
    refine callW0 (hs h34) rfl ?_
    refine Ask.mk ⟨rfl, rfl⟩ (BsW.mk (dTms_map [r33]).symm (dTms_sz _) ?_)
    obtain ⟨p35, h⟩ := gdB h
    refine Ask.mk ⟨rfl, rfl, rfl⟩ (AppW.mk (dTms_app _ _) (dTms_sz _) (dTms_sz _) (by rw [dTms_len, dTms_len]; exact p35) ?_)
    refine Ask.mk (by kernel_rfl) ?_
    exact jt (x12 ++ [r33]) h rfl rfl rfl
   ·refine rg pg ?_
    refine rt ?_
    obtain rfl := Option.some.inj h
    exact en rfl rfl
theorem ref03_In_me : ∀ (m : Nat) {t : Trm} {at_ : Int} {depth : Int} {s : Trm} {r : Trm}, ref03_In_m m t at_ depth s = some r → Ev Tryz.prog GL 61 [.agg ((dTm t).map V.d), .d (.int .i64 at_), .d (.int .i64 depth), .agg ((dTm s).map V.d)] [] (.agg ((dTm r).map V.d)) []
  | 0, _, _, _, _, _, h => nomatch (show none = some _ from h)
  | m + 1, _, _, _, _, _, h => ref03_In_be (ref03_In_m m) (fun h => ref03_In_me m h) h
theorem ref03_In_ev {t : Trm} {at_ : Int} {depth : Int} {s : Trm} {r : Trm} (h : ref03_In t at_ depth s = some r) : Ev Tryz.prog GL 61 [.agg ((dTm t).map V.d), .d (.int .i64 at_), .d (.int .i64 depth), .agg ((dTm s).map V.d)] [] (.agg ((dTm r).map V.d)) [] := ref03_In_me FU h
theorem ref03_Put_ev {t : Trm} {at_ : Int} {s : Trm} {r : Trm × Int} (h : ref03_Put t at_ s = some r) : Ev Tryz.prog GL 23 [.agg ((dTm t).map V.d), .d (.int .i64 at_), .agg ((dTm s).map V.d)] [] (.tup [.agg ((dTm r.1).map V.d), .d (.int .i64 r.2)]) [] := by
  refine evb pg Tryz.func23 rfl (by kernel_rfl) 55 [.cell 6 28, .tmp 7] rfl rfl rfl (fun E ι0 => ?_)
  refine rg pg ?_
  refine sq ?_
  refine rg pg ?_
  obtain ⟨r1, h2, h⟩ := bndB h
  refine callW0 (ref02_Check_ev h2) rfl ?_
  refine rg pg ?_
  refine cd h rfl (fun h hb3 => ?_) (fun h hb3 => ?_)
  ·refine rg pg ?_
   refine rt ?_
   obtain rfl := Option.some.inj h
   exact en rfl rfl
  ·refine sk ?_
   refine sq ?_
   refine rg pg ?_
   refine gwF h (fun h hb4 => ?_) (fun h hb4 => ?_)
   ·refine gf rfl ?_
    refine cdT rfl ?_
    refine rg pg ?_
    refine rt ?_
    obtain rfl := Option.some.inj h
    exact en rfl rfl
   ·refine gl rfl ?_
    refine cd h rfl (fun h hb5 => ?_) (fun h hb5 => ?_)
    ·refine rg pg ?_
     refine rt ?_
     obtain rfl := Option.some.inj h
     exact en rfl rfl
    ·refine sk ?_
     refine sq ?_
     refine rg pg ?_
     obtain ⟨r6, h7, h⟩ := bndB h
     refine callW0 (ref02_Check_ev h7) rfl ?_
     refine rg pg ?_
     refine cd h rfl (fun h hb8 => ?_) (fun h hb8 => ?_)
     ·refine rg pg ?_
      refine rt ?_
      obtain rfl := Option.some.inj h
      exact en rfl rfl
     ·refine sk ?_
      refine sq ?_
      refine rg pg ?_
      obtain ⟨r9, h10, h⟩ := bndB h
      refine callW0 (ref03_Least_ev h10) rfl ?_
      refine gwF h (fun h hb11 => ?_) (fun h hb11 => ?_)
      ·refine gf rfl ?_
       refine gf rfl ?_
       refine cdT rfl ?_
       refine rg pg ?_
       refine rt ?_
       obtain rfl := Option.some.inj h
       exact en rfl rfl
      ·refine gl rfl ?_
       obtain ⟨r12, h13, h⟩ := bndB h
       refine callW0 (ref03_Least_ev h13) rfl ?_
       refine gl rfl ?_
       refine cd h rfl (fun h hb14 => ?_) (fun h hb14 => ?_)
       ·refine rg pg ?_
        refine rt ?_
        obtain rfl := Option.some.inj h
        exact en rfl rfl
       ·refine sk ?_
        refine sq ?_
        refine rgd pg ?_
        obtain ⟨r15, h16, h⟩ := bndB h
        refine callW0 (ref02_Count_ev h16) rfl ?_
        obtain ⟨r17, h18, h⟩ := bndB h
        refine callW0 (ref03_Times_ev h18) rfl ?_
        obtain ⟨r19, h20, h⟩ := bndB h
        refine callW0 (ref02_Count_ev h20) rfl ?_
        refine Ask.mk (by kernel_rfl) ?_
        refine cd h rfl (fun h hb21 => ?_) (fun h hb21 => ?_)
        ·refine rg pg ?_
         refine rt ?_
         obtain rfl := Option.some.inj h
         exact en rfl rfl
        ·refine sk ?_
         refine rg pg ?_
         obtain ⟨r22, h23, h⟩ := bndB h
         refine callW0 (ref03_In_ev h23) rfl ?_
         obtain ⟨r24, h25, h⟩ := bndB h
         refine callW0 (ref02_Copy_ev h25) rfl ?_
         refine rt ?_
         obtain rfl := Option.some.inj h
         exact en rfl rfl
end Go.AM

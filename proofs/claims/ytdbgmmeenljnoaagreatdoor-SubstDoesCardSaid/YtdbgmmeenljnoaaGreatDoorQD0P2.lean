/-
  The Go functions reckon what the printed ones do.
-/
import Derived.Test.YtdbgmmeenljnoaaGreatDoorQD0P1
set_option linter.unusedVariables false
set_option linter.unusedSimpArgs false
set_option maxRecDepth 20000
set_option maxHeartbeats 40000000
namespace Go.AM
open Go Go.RowKit Go.Proofs
theorem ref02_Same_be (self : Trm → Trm → Option (Bool)) (hs : ∀ {a : Trm} {b : Trm} {r : Bool}, self a b = some r → Ev Tryz.prog GL 21 [.agg ((dTm a).map V.d), .agg ((dTm b).map V.d)] [] (.d (.bool r)) []) {a : Trm} {b : Trm} {r : Bool} (h : ref02_Same_b self a b = some r) : Ev Tryz.prog GL 21 [.agg ((dTm a).map V.d), .agg ((dTm b).map V.d)] [] (.d (.bool r)) [] := by
  refine evb pg Tryz.func21 rfl (by kernel_rfl) 54 [.tmp 4] rfl rfl rfl (fun E ι0 => ?_)
  refine rg pg ?_
  refine sq ?_
  refine rg pg ?_
  refine gwF h (fun h hb1 => ?_) (fun h hb1 => ?_)
  ·refine gf rfl ?_
   refine gf rfl ?_
   refine gf rfl ?_
   refine gf rfl ?_
   refine gf rfl ?_
   refine gf rfl ?_
   refine gf rfl ?_
   refine gf rfl ?_
   refine gf rfl ?_
   refine gf rfl ?_
   refine gf rfl ?_
   refine gf rfl ?_
   refine gf rfl ?_
   refine gf rfl ?_
   refine gf rfl ?_
   refine gf rfl ?_
   refine gf rfl ?_
   refine cdT rfl ?_
   refine rg pg ?_
   refine rt ?_
   obtain rfl := Option.some.inj h
   exact en rfl rfl
  ·refine gl rfl ?_
   refine gl rfl ?_
   refine gl rfl ?_
   refine gl rfl ?_
   refine gwF h (fun h hb2 => ?_) (fun h hb2 => ?_)
   ·refine gf rfl ?_
    refine gf rfl ?_
    refine gf rfl ?_
    refine gf rfl ?_
    refine gf rfl ?_
    refine gf rfl ?_
    refine gf rfl ?_
    refine gf rfl ?_
    refine gf rfl ?_
    refine gf rfl ?_
    refine gf rfl ?_
    refine gf rfl ?_
    refine cdT rfl ?_
    refine rg pg ?_
    refine rt ?_
    obtain rfl := Option.some.inj h
    exact en rfl rfl
   ·refine gl rfl ?_
    refine gl rfl ?_
    refine gl rfl ?_
    refine gl rfl ?_
    obtain ⟨r3, h4, h⟩ := bndB h
    refine callW0 (ref01_Same_ev h4) rfl ?_
    refine gl rfl ?_
    refine gwF h (fun h hb5 => ?_) (fun h hb5 => ?_)
    ·refine gf rfl ?_
     refine gf rfl ?_
     refine gf rfl ?_
     refine gf rfl ?_
     refine gf rfl ?_
     refine gf rfl ?_
     refine cdT rfl ?_
     refine rg pg ?_
     refine rt ?_
     obtain rfl := Option.some.inj h
     exact en rfl rfl
    ·refine gl rfl ?_
     refine gl rfl ?_
     refine LenW.mk (dTms_len _) ?_
     refine gl rfl ?_
     refine gl rfl ?_
     refine gl rfl ?_
     refine LenW.mk (dTms_len _) ?_
     refine gl rfl ?_
     refine cd h rfl (fun h hb6 => ?_) (fun h hb6 => ?_)
     ·refine rg pg ?_
      refine rt ?_
      obtain rfl := Option.some.inj h
      exact en rfl rfl
     ·refine sk ?_
      refine sq ?_
      refine rg pg ?_
      refine LenW.mk (dTms_len _) ?_
      refine rangeK (X := Unit) pg a.args _ rfl (fun x11 => [(2, .ptr 2 0), (3, .ptr 3 0)]) (fun x11 => [(2, some (.cells ((dTm a).map V.d) 28)), (3, some (.cells ((dTm b).map V.d) 28))]) [2, 3] h rfl rfl rfl rfl (fun _ => ⟨rfl, rfl⟩) 28 rfl (dTms_len _) (fun k8 i9 a7 x11 _ g10 h => ?_) (fun x11 h => ?_)
      ·refine rg pg ?_
       refine rgd pg ?_
       refine IdxW.mk (Int.natCast_nonneg _) (dTms_get g10) rfl ?_
       obtain ⟨a18, p19, g20, h⟩ := idxB h
       refine IdxW.mk p19 (dTms_get g20) rfl ?_
       obtain ⟨r21, h22, h⟩ := bndB h
       refine callW0 (hs h22) rfl ?_
       refine Ask.mk (by kernel_rfl) ?_
       refine cd h rfl (fun h hb23 => ?_) (fun h hb23 => ?_)
       ·refine rg pg ?_
        refine rt ?_
        obtain rfl := Option.some.inj h
        exact en rfl rfl
       ·refine sk ?_
        exact jt () h rfl rfl rfl
      ·refine rg pg ?_
       refine rt ?_
       obtain rfl := Option.some.inj h
       exact en rfl rfl
theorem ref02_Same_me : ∀ (m : Nat) {a : Trm} {b : Trm} {r : Bool}, ref02_Same_m m a b = some r → Ev Tryz.prog GL 21 [.agg ((dTm a).map V.d), .agg ((dTm b).map V.d)] [] (.d (.bool r)) []
  | 0, _, _, _, h => nomatch (show none = some _ from h)
  | m + 1, _, _, _, h => ref02_Same_be (ref02_Same_m m) (fun h => ref02_Same_me m h) h
theorem ref02_Same_ev {a : Trm} {b : Trm} {r : Bool} (h : ref02_Same a b = some r) : Ev Tryz.prog GL 21 [.agg ((dTm a).map V.d), .agg ((dTm b).map V.d)] [] (.d (.bool r)) [] := ref02_Same_me FU h
theorem law03_sane_ev {_u : Unit} {r : Bool} (h : law03_sane _u = some r) : Ev Tryz.prog GL 4 [] [] (.d (.bool r)) [] := by
  refine evb pg Tryz.func4 rfl (by kernel_rfl) 43 [.tmp 0] rfl rfl rfl (fun E ι0 => ?_)
  refine rg pg ?_
  refine rg pg ?_
  obtain ⟨r1, h2, h⟩ := bndB h
  refine callW0 (ref02_Var_ev h2) rfl ?_
  refine Ask.mk ⟨rfl, rfl⟩ (BsW.mk (dTms_map [r1]).symm (dTms_sz _) ?_)
  obtain ⟨r3, h4, h⟩ := bndB h
  refine callW0 (ref02_N_ev h4) rfl ?_
  obtain ⟨r5, h6, h⟩ := bndB h
  refine callW0 (ref02_N_ev h6) rfl ?_
  obtain ⟨r7, h8, h⟩ := bndB h
  refine callW0 (subst_Put_ev h8) rfl ?_
  refine rg pg ?_
  obtain ⟨r9, h10, h⟩ := bndB h
  refine callW0 (ref01_Nat_ev h10) rfl ?_
  obtain ⟨r11, h12, h⟩ := bndB h
  refine callW0 (ref02_Var_ev h12) rfl ?_
  refine Ask.mk ⟨rfl, rfl⟩ (BsW.mk (dTms_map [r11]).symm (dTms_sz _) ?_)
  obtain ⟨r13, h14, h⟩ := bndB h
  refine callW0 (ref02_T_ev h14) rfl ?_
  obtain ⟨r15, h16, h⟩ := bndB h
  refine callW0 (ref02_Var_ev h16) rfl ?_
  obtain ⟨r17, h18, h⟩ := bndB h
  refine callW0 (subst_Put_ev h18) rfl ?_
  refine rgd pg ?_
  refine gwT h (fun h hb19 => ?_) (fun h hb19 => ?_)
  ·refine gl rfl ?_
   refine gwT h (fun h hb20 => ?_) (fun h hb20 => ?_)
   ·refine gl rfl ?_
    obtain ⟨r21, h22, h⟩ := bndB h
    refine callW0 (ref02_N_ev h22) rfl ?_
    refine gl rfl ?_
    refine Ask.mk ⟨rfl, rfl⟩ (BsW.mk (dTms_map [r21]).symm (dTms_sz _) ?_)
    refine gl rfl ?_
    obtain ⟨r23, h24, h⟩ := bndB h
    refine callW0 (ref02_N_ev h24) rfl ?_
    refine gl rfl ?_
    obtain ⟨r25, h26, h⟩ := bndB h
    refine callW0 (ref02_Same_ev h26) rfl ?_
    refine gwT h (fun h hb27 => ?_) (fun h hb27 => ?_)
    ·refine gl rfl ?_
     obtain ⟨r28, h29, h⟩ := bndB h
     refine callW0 (ref01_Nat_ev h29) rfl ?_
     refine gl rfl ?_
     obtain ⟨r30, h31, h⟩ := bndB h
     refine callW0 (ref02_Var_ev h31) rfl ?_
     refine gl rfl ?_
     refine Ask.mk ⟨rfl, rfl⟩ (BsW.mk (dTms_map [r30]).symm (dTms_sz _) ?_)
     refine gl rfl ?_
     obtain ⟨r32, h33, h⟩ := bndB h
     refine callW0 (ref02_T_ev h33) rfl ?_
     refine gl rfl ?_
     obtain ⟨r34, h35, h⟩ := bndB h
     refine callW0 (ref02_Same_ev h35) rfl ?_
     refine Ask.mk (by kernel_rfl) ?_
     refine rt ?_
     obtain rfl := Option.some.inj h
     exact en rfl rfl
    ·refine gf rfl ?_
     refine gf rfl ?_
     refine gf rfl ?_
     refine gf rfl ?_
     refine gf rfl ?_
     refine Ask.mk (by kernel_rfl) ?_
     refine rt ?_
     obtain rfl := Option.some.inj h
     exact en rfl rfl
   ·refine gf rfl ?_
    refine gf rfl ?_
    refine gf rfl ?_
    refine gf rfl ?_
    refine gf rfl ?_
    refine gf rfl ?_
    refine gf rfl ?_
    refine gf rfl ?_
    refine gf rfl ?_
    refine gf rfl ?_
    refine Ask.mk (by kernel_rfl) ?_
    refine rt ?_
    obtain rfl := Option.some.inj h
    exact en rfl rfl
  ·refine gf rfl ?_
   refine gf rfl ?_
   refine gf rfl ?_
   refine gf rfl ?_
   refine gf rfl ?_
   refine gf rfl ?_
   refine gf rfl ?_
   refine gf rfl ?_
   refine gf rfl ?_
   refine gf rfl ?_
   refine gf rfl ?_
   refine gf rfl ?_
   refine Ask.mk (by kernel_rfl) ?_
   refine rt ?_
   obtain rfl := Option.some.inj h
   exact en rfl rfl
theorem make_Few_ev {l : List Int} {r : Bool} (h : make_Few l = some r) : Ev Tryz.prog GL 5 [.d (.slice (dInts l))] [] (.d (.bool r)) [] := by
  refine evb pg Tryz.func5 rfl (by kernel_rfl) 6 [.tmp 2] rfl rfl rfl (fun E ι0 => ?_)
  refine rg pg ?_
  refine rg pg ?_
  refine LenW.mk (dInts_len _) ?_
  refine rt ?_
  obtain rfl := Option.some.inj h
  exact en rfl rfl
theorem make_CountType_be (self : Typ → Int → Option (Int)) (hs : ∀ {t : Typ} {most : Int} {r : Int}, self t most = some r → Ev Tryz.prog GL 81 [.agg ((dTy t).map V.d), .d (.int .i64 most)] [] (.d (.int .i64 r)) []) {t : Typ} {most : Int} {r : Int} (h : make_CountType_b self t most = some r) : Ev Tryz.prog GL 81 [.agg ((dTy t).map V.d), .d (.int .i64 most)] [] (.d (.int .i64 r)) [] := by
  refine evb pg Tryz.func81 rfl (by kernel_rfl) 31 [.tmp 4] rfl rfl rfl (fun E ι0 => ?_)
  refine rg pg ?_
  refine rg pg ?_
  refine sq ?_
  refine rg pg ?_
  refine bk ?_
  refine loopK (X := Int × Int) (fun x2 => ⟨[(1, .d (.int .i64 most)), (2, .ptr 2 0), (5, .d (.int .i64 x2.1)), (6, .d (.int .i64 x2.2))], [(2, some (.cells ((dTy t).map V.d) 25))], [2]⟩) h rfl rfl rfl (fun k1 x2 h => ?_)
  refine sq ?_
  refine rg pg ?_
  refine LenW.mk (dTys_len _) ?_
  refine gwT h (fun h hb23 => ?_) (fun h hb23 => ?_)
  ·refine gl rfl ?_
   refine gl rfl ?_
   refine cd h rfl (fun h hb24 => ?_) (fun h hb24 => ?_)
   ·refine sk ?_
    refine sq ?_
    refine bk ?_
    refine rl pg ?_
    obtain ⟨a25, p26, g27, h⟩ := idxB h
    refine IdxW.mk p26 (dTys_get g27) rfl ?_
    obtain ⟨r28, h29, h⟩ := bndB h
    refine callW0 (hs h29) rfl ?_
    refine rl pg ?_
    exact jt ((w64 (x2.1 + r28)), (w64 (x2.2 + 1))) h rfl rfl rfl
   ·refine ex ?_
    refine rg pg ?_
    refine rt ?_
    obtain rfl := Option.some.inj h
    exact en rfl rfl
  ·refine gf rfl ?_
   refine gf rfl ?_
   refine cdF rfl ?_
   refine ex ?_
   refine rg pg ?_
   refine rt ?_
   obtain rfl := Option.some.inj h
   exact en rfl rfl
theorem make_CountType_sz (m : Nat) (t : Typ) (most : Int) : make_CountType_m (m + 1) t most = make_CountType_b (make_CountType_m m) t most := by
  unfold make_CountType_m
  rw [fixO]
theorem make_CountType_me : ∀ (m : Nat) {t : Typ} {most : Int} {r : Int}, make_CountType_m m t most = some r → Ev Tryz.prog GL 81 [.agg ((dTy t).map V.d), .d (.int .i64 most)] [] (.d (.int .i64 r)) []
  | 0, _, _, _, h => nomatch (show none = some _ from h)
  | m + 1, _, _, _, h => make_CountType_be (make_CountType_m m) (fun h => make_CountType_me m h) ((make_CountType_sz m _ _).symm.trans h)
theorem make_CountType_ev {t : Typ} {most : Int} {r : Int} (h : make_CountType t most = some r) : Ev Tryz.prog GL 81 [.agg ((dTy t).map V.d), .d (.int .i64 most)] [] (.d (.int .i64 r)) [] := make_CountType_me FU h
theorem make_CountTerm_be (self : Trm → Int → Option (Int)) (hs : ∀ {t : Trm} {most : Int} {r : Int}, self t most = some r → Ev Tryz.prog GL 63 [.agg ((dTm t).map V.d), .d (.int .i64 most)] [] (.d (.int .i64 r)) []) {t : Trm} {most : Int} {r : Int} (h : make_CountTerm_b self t most = some r) : Ev Tryz.prog GL 63 [.agg ((dTm t).map V.d), .d (.int .i64 most)] [] (.d (.int .i64 r)) [] := by
  refine evb pg Tryz.func63 rfl (by kernel_rfl) 37 [.tmp 4] rfl rfl rfl (fun E ι0 => ?_)
  refine rg pg ?_
  refine rg pg ?_
  obtain ⟨r1, h2, h⟩ := bndB h
  refine callW0 (make_CountType_ev h2) rfl ?_
  refine sq ?_
  refine rg pg ?_
  refine bk ?_
  refine loopK (X := Int × Int) (fun x4 => ⟨[(1, .d (.int .i64 most)), (2, .ptr 2 0), (5, .d (.int .i64 x4.1)), (6, .d (.int .i64 x4.2))], [(2, some (.cells ((dTm t).map V.d) 28))], [2]⟩) h rfl rfl rfl (fun k3 x4 h => ?_)
  refine sq ?_
  refine rg pg ?_
  refine LenW.mk (dTms_len _) ?_
  refine gwT h (fun h hb25 => ?_) (fun h hb25 => ?_)
  ·refine gl rfl ?_
   refine gl rfl ?_
   refine cd h rfl (fun h hb26 => ?_) (fun h hb26 => ?_)
   ·refine sk ?_
    refine sq ?_
    refine bk ?_
    refine rl pg ?_
    obtain ⟨a27, p28, g29, h⟩ := idxB h
    refine IdxW.mk p28 (dTms_get g29) rfl ?_
    obtain ⟨r30, h31, h⟩ := bndB h
    refine callW0 (hs h31) rfl ?_
    refine rl pg ?_
    exact jt ((w64 (x4.1 + r30)), (w64 (x4.2 + 1))) h rfl rfl rfl
   ·refine ex ?_
    refine rg pg ?_
    refine rt ?_
    obtain rfl := Option.some.inj h
    exact en rfl rfl
  ·refine gf rfl ?_
   refine gf rfl ?_
   refine cdF rfl ?_
   refine ex ?_
   refine rg pg ?_
   refine rt ?_
   obtain rfl := Option.some.inj h
   exact en rfl rfl
theorem make_CountTerm_sz (m : Nat) (t : Trm) (most : Int) : make_CountTerm_m (m + 1) t most = make_CountTerm_b (make_CountTerm_m m) t most := by
  unfold make_CountTerm_m
  rw [fixO]
theorem make_CountTerm_me : ∀ (m : Nat) {t : Trm} {most : Int} {r : Int}, make_CountTerm_m m t most = some r → Ev Tryz.prog GL 63 [.agg ((dTm t).map V.d), .d (.int .i64 most)] [] (.d (.int .i64 r)) []
  | 0, _, _, _, h => nomatch (show none = some _ from h)
  | m + 1, _, _, _, h => make_CountTerm_be (make_CountTerm_m m) (fun h => make_CountTerm_me m h) ((make_CountTerm_sz m _ _).symm.trans h)
theorem make_CountTerm_ev {t : Trm} {most : Int} {r : Int} (h : make_CountTerm t most = some r) : Ev Tryz.prog GL 63 [.agg ((dTm t).map V.d), .d (.int .i64 most)] [] (.d (.int .i64 r)) [] := make_CountTerm_me FU h
theorem law03_nodes_ev {t : Trm} {r : Int} (h : law03_nodes t = some r) : Ev Tryz.prog GL 28 [.agg ((dTm t).map V.d)] [] (.d (.int .i64 r)) [] := by
  refine evb pg Tryz.func28 rfl (by kernel_rfl) 5 [.tmp 2] rfl rfl rfl (fun E ι0 => ?_)
  refine rg pg ?_
  refine rg pg ?_
  obtain ⟨r1, h2, h⟩ := bndB h
  refine callW0 (make_CountTerm_ev h2) rfl ?_
  refine rt ?_
  obtain rfl := Option.some.inj h
  exact en rfl rfl
theorem law03_few_ev {l : List Trm} {r : Bool} (h : law03_few l = some r) : Ev Tryz.prog GL 6 [.d (.slice (dTms l))] [] (.d (.bool r)) [] := by
  refine evb pg Tryz.func6 rfl (by kernel_rfl) 19 [.tmp 2] rfl rfl rfl (fun E ι0 => ?_)
  refine rg pg ?_
  refine rg pg ?_
  refine sq ?_
  refine rg pg ?_
  refine LenW.mk (dTms_len _) ?_
  refine rangeK (X := Int) pg l _ rfl (fun x5 => [(3, .d (.int .i64 x5)), (6, .d (.slice (dTms l)))]) (fun x5 => []) [] h rfl rfl rfl rfl (fun _ => ⟨rfl, rfl⟩) 0 rfl (dTms_len _) (fun k2 i3 a1 x5 _ g4 h => ?_) (fun x5 h => ?_)
  ·refine rg pg ?_
   refine IdxW.mk (Int.natCast_nonneg _) (dTms_get g4) rfl ?_
   refine rl pg ?_
   obtain ⟨r13, h14, h⟩ := bndB h
   refine callW0 (law03_nodes_ev h14) rfl ?_
   exact jt (w64 (x5 + r13)) h rfl rfl rfl
  ·refine rg pg ?_
   refine rt ?_
   obtain rfl := Option.some.inj h
   exact en rfl rfl
theorem make_New_ev {l : List Int} {r : List Int × Int} (h : make_New l = some r) : Ev Tryz.prog GL 7 [.d (.slice (dInts l))] [] (.ptr 5 0) [(5, .cells [.d (.slice (dInts r.1)), .d (.int .i64 r.2)] 58)] := by
  refine evb pg Tryz.func7 rfl (by kernel_rfl) 6 [.tmp 2] rfl rfl rfl (fun E ι0 => ?_)
  refine rg pg ?_
  refine rg pg ?_
  refine rt ?_
  obtain rfl := Option.some.inj h
  exact en rfl rfl
theorem make_Mod_ev {n : Int} {k : Int} {r : Int} (h : make_Mod n k = some r) : Ev Tryz.prog GL 16 [.d (.int .i64 n), .d (.int .i64 k)] [] (.d (.int .i64 r)) [] := by
  refine evb pg Tryz.func16 rfl (by kernel_rfl) 12 [.tmp 4] rfl rfl rfl (fun E ι0 => ?_)
  refine rg pg ?_
  refine rg pg ?_
  obtain ⟨p1, h⟩ := nzB h
  refine Ask.mk p1 ?_
  obtain ⟨p2, h⟩ := nzB h
  refine Ask.mk p2 ?_
  refine rt ?_
  obtain rfl := Option.some.inj h
  exact en rfl rfl
theorem make_Deck_Next_eb1_ev {n : Int} {o0 : S_make_Deck} {r : Int × Int} (h : make_Deck_Next_eb1 n o0 = some r) : Ev Tryz.prog GL 29 [.ptr 1000 0, .d (.int .i64 n)] [(1000, .cells ((cS_make_Deck o0).map V.d) 58)] (.d (.int .i64 r.1)) [(1000, .cells [.d (.slice (dInts o0.L)), .d (.int .i64 r.2)] 58)] := by
  refine evb pg Tryz.func29 rfl (by kernel_rfl) 40 [.tmp 4] rfl rfl rfl (fun E ι0 => ?_)
  refine rg pg ?_
  refine sq ?_
  refine rgd pg ?_
  refine gwF h (fun h hb1 => ?_) (fun h hb1 => ?_)
  ·refine gf rfl ?_
   refine gf rfl ?_
   refine gf rfl ?_
   refine gf rfl ?_
   refine gf rfl ?_
   refine gf rfl ?_
   refine gf rfl ?_
   refine gf rfl ?_
   refine gf rfl ?_
   refine Ask.mk (by kernel_rfl) ?_
   refine cdT rfl ?_
   refine rg pg ?_
   refine rt ?_
   obtain rfl := Option.some.inj h
   exact en rfl rfl
  ·refine gl rfl ?_
   refine gl rfl ?_
   refine gl rfl ?_
   refine gl rfl ?_
   refine gl rfl ?_
   refine gl rfl ?_
   refine gl rfl ?_
   refine gl rfl ?_
   refine LenW.mk (dInts_len _) ?_
   refine gl rfl ?_
   refine Ask.mk (by kernel_rfl) ?_
   refine cd h rfl (fun h hb2 => ?_) (fun h hb2 => ?_)
   ·refine rg pg ?_
    refine rt ?_
    obtain rfl := Option.some.inj h
    exact en rfl rfl
   ·refine sk ?_
    refine rgd pg ?_
    obtain ⟨a3, p4, g5, h⟩ := idxB h
    refine IdxW.mk p4 (dInts_get g5) rfl ?_
    refine Ask.mk (by kernel_rfl) ?_
    refine rg pg ?_
    refine rg pg ?_
    obtain ⟨r6, h7, h⟩ := bndB h
    refine callW0 (make_Mod_ev h7) rfl ?_
    refine rt ?_
    obtain rfl := Option.some.inj h
    exact en rfl rfl
theorem ref01_List_ev {_u : Unit} {r : Typ} (h : ref01_List _u = some r) : Ev Tryz.prog GL 33 [] [] (.agg ((dTy r).map V.d)) [] := by
  refine evb pg Tryz.func33 rfl (by kernel_rfl) 2 [.cell 0 25] rfl rfl rfl (fun E ι0 => ?_)
  refine rg pg ?_
  refine rg pg ?_
  refine rt ?_
  obtain rfl := Option.some.inj h
  exact en rfl rfl
theorem ref01_Unit_ev {_u : Unit} {r : Typ} (h : ref01_Unit _u = some r) : Ev Tryz.prog GL 38 [] [] (.agg ((dTy r).map V.d)) [] := by
  refine evb pg Tryz.func38 rfl (by kernel_rfl) 2 [.cell 0 25] rfl rfl rfl (fun E ι0 => ?_)
  refine rg pg ?_
  refine rg pg ?_
  refine rt ?_
  obtain rfl := Option.some.inj h
  exact en rfl rfl
theorem ref01_Two_ev {a : Typ} {b : Typ} {r : Typ} (h : ref01_Two a b = some r) : Ev Tryz.prog GL 39 [.agg ((dTy a).map V.d), .agg ((dTy b).map V.d)] [] (.agg ((dTy r).map V.d)) [] := by
  refine evb pg Tryz.func39 rfl (by kernel_rfl) 11 [.cell 4 25] rfl rfl rfl (fun E ι0 => ?_)
  refine rg pg ?_
  refine rgd pg ?_
  obtain ⟨r1, h2, h⟩ := bndB h
  refine callW0 (ref01_Copy_ev h2) rfl ?_
  obtain ⟨r3, h4, h⟩ := bndB h
  refine callW0 (ref01_Copy_ev h4) rfl ?_
  refine Ask.mk ⟨rfl, rfl⟩ (BsW.mk (dTys_map [r1, r3]).symm (dTys_sz _) ?_)
  refine Ask.mk (by kernel_rfl) ?_
  refine rt ?_
  obtain rfl := Option.some.inj h
  exact en rfl rfl
theorem ref01_Fun_ev {a : Typ} {b : Typ} {r : Typ} (h : ref01_Fun a b = some r) : Ev Tryz.prog GL 40 [.agg ((dTy a).map V.d), .agg ((dTy b).map V.d)] [] (.agg ((dTy r).map V.d)) [] := by
  refine evb pg Tryz.func40 rfl (by kernel_rfl) 11 [.cell 4 25] rfl rfl rfl (fun E ι0 => ?_)
  refine rg pg ?_
  refine rgd pg ?_
  obtain ⟨r1, h2, h⟩ := bndB h
  refine callW0 (ref01_Copy_ev h2) rfl ?_
  obtain ⟨r3, h4, h⟩ := bndB h
  refine callW0 (ref01_Copy_ev h4) rfl ?_
  refine Ask.mk ⟨rfl, rfl⟩ (BsW.mk (dTys_map [r1, r3]).symm (dTys_sz _) ?_)
  refine Ask.mk (by kernel_rfl) ?_
  refine rt ?_
  obtain rfl := Option.some.inj h
  exact en rfl rfl
theorem make_Type_eb1_be (self : Int → S_make_Deck → Option (Typ × Int)) (hs : ∀ {depth : Int} {o0 : S_make_Deck} {r : Typ × Int}, self depth o0 = some r → Ev Tryz.prog GL 10 [.ptr 1000 0, .d (.int .i64 depth)] [(1000, .cells ((cS_make_Deck o0).map V.d) 58)] (.agg ((dTy r.1).map V.d)) [(1000, .cells [.d (.slice (dInts o0.L)), .d (.int .i64 r.2)] 58)]) {depth : Int} {o0 : S_make_Deck} {r : Typ × Int} (h : make_Type_eb1_b self depth o0 = some r) : Ev Tryz.prog GL 10 [.ptr 1000 0, .d (.int .i64 depth)] [(1000, .cells ((cS_make_Deck o0).map V.d) 58)] (.agg ((dTy r.1).map V.d)) [(1000, .cells [.d (.slice (dInts o0.L)), .d (.int .i64 r.2)] 58)] := by
  refine evb pg Tryz.func10 rfl (by kernel_rfl) 45 [.cell 4 25] rfl rfl rfl (fun E ι0 => ?_)
  refine rg pg ?_
  refine sq ?_
  refine rg pg ?_
  obtain ⟨r1, h2, h⟩ := bndB h
  refine callW [(1000, 1000)] (make_Deck_Next_eb1_ev h2) rfl rfl rfl rfl rfl ?_
  refine bk ?_
  refine join (fun x6 : Bool => ⟨[(0, .ptr 1000 0), (1, .d (.int .i64 depth)), (4, .ptr 4 0), (6, .d (.int .i64 r1.1)), (7, .d (.bool x6))], [(1000, some (.cells [.d (.slice (dInts o0.L)), .d (.int .i64 r1.2)] 58)), (4, some (.cells [.d (.int .i64 0), .d .nils] 25))], [1000, 4]⟩) (fun x6 => make_Type_eb1_k1 self depth o0 r1 x6) r ?_ (fun x6 h => ?_)
  ·refine rg pg ?_
   refine cd h rfl (fun h hb3 => ?_) (fun h hb3 => ?_)
   ·refine sk ?_
    exact jt true h rfl rfl rfl
   ·refine rg pg ?_
    refine cd h rfl (fun h hb4 => ?_) (fun h hb4 => ?_)
    ·refine sk ?_
     exact jt true h rfl rfl rfl
    ·refine rl pg ?_
     exact jt (r1.1 == 2) h rfl rfl rfl
  ·refine cd h rfl (fun h hb7 => ?_) (fun h hb7 => ?_)
   ·refine rg pg ?_
    obtain ⟨r8, h9, h⟩ := bndB h
    refine callW0 (ref01_Nat_ev h9) rfl ?_
    refine rt ?_
    obtain rfl := Option.some.inj h
    exact en rfl rfl
   ·refine rg pg ?_
    refine cd h rfl (fun h hb10 => ?_) (fun h hb10 => ?_)
    ·refine rg pg ?_
     obtain ⟨r11, h12, h⟩ := bndB h
     refine callW0 (ref01_List_ev h12) rfl ?_
     refine rt ?_
     obtain rfl := Option.some.inj h
     exact en rfl rfl
    ·refine rg pg ?_
     refine cd h rfl (fun h hb13 => ?_) (fun h hb13 => ?_)
     ·refine rg pg ?_
      obtain ⟨r14, h15, h⟩ := bndB h
      refine callW0 (ref01_Unit_ev h15) rfl ?_
      refine rt ?_
      obtain rfl := Option.some.inj h
      exact en rfl rfl
     ·refine rg pg ?_
      refine cd h rfl (fun h hb16 => ?_) (fun h hb16 => ?_)
      ·refine rg pg ?_
       refine cd h rfl (fun h hb17 => ?_) (fun h hb17 => ?_)
       ·refine rg pg ?_
        obtain ⟨r18, h19, h⟩ := bndB h
        refine callW [(1000, 1000)] (hs h19) rfl rfl rfl rfl rfl ?_
        obtain ⟨r20, h21, h⟩ := bndB h
        refine callW [(1000, 1000)] (hs h21) rfl rfl rfl rfl rfl ?_
        obtain ⟨r22, h23, h⟩ := bndB h
        refine callW0 (ref01_Two_ev h23) rfl ?_
        refine rt ?_
        obtain rfl := Option.some.inj h
        exact en rfl rfl
       ·refine sk ?_
        refine rg pg ?_
        obtain ⟨r32, h33, h⟩ := bndB h
        refine callW0 (ref01_Nat_ev h33) rfl ?_
        refine rt ?_
        obtain rfl := Option.some.inj h
        exact en rfl rfl
      ·refine rg pg ?_
       refine cd h rfl (fun h hb24 => ?_) (fun h hb24 => ?_)
       ·refine rg pg ?_
        refine cd h rfl (fun h hb25 => ?_) (fun h hb25 => ?_)
        ·refine rg pg ?_
         obtain ⟨r26, h27, h⟩ := bndB h
         refine callW [(1000, 1000)] (hs h27) rfl rfl rfl rfl rfl ?_
         obtain ⟨r28, h29, h⟩ := bndB h
         refine callW [(1000, 1000)] (hs h29) rfl rfl rfl rfl rfl ?_
         obtain ⟨r30, h31, h⟩ := bndB h
         refine callW0 (ref01_Fun_ev h31) rfl ?_
         refine rt ?_
         obtain rfl := Option.some.inj h
         exact en rfl rfl
        ·refine sk ?_
         refine rg pg ?_
         obtain ⟨r34, h35, h⟩ := bndB h
         refine callW0 (ref01_Nat_ev h35) rfl ?_
         refine rt ?_
         obtain rfl := Option.some.inj h
         exact en rfl rfl
       ·refine sk ?_
        refine rg pg ?_
        obtain ⟨r36, h37, h⟩ := bndB h
        refine callW0 (ref01_Nat_ev h37) rfl ?_
        refine rt ?_
        obtain rfl := Option.some.inj h
        exact en rfl rfl
theorem make_Type_eb1_me : ∀ (m : Nat) {depth : Int} {o0 : S_make_Deck} {r : Typ × Int}, make_Type_eb1_m m depth o0 = some r → Ev Tryz.prog GL 10 [.ptr 1000 0, .d (.int .i64 depth)] [(1000, .cells ((cS_make_Deck o0).map V.d) 58)] (.agg ((dTy r.1).map V.d)) [(1000, .cells [.d (.slice (dInts o0.L)), .d (.int .i64 r.2)] 58)]
  | 0, _, _, _, h => nomatch (show none = some _ from h)
  | m + 1, _, _, _, h => make_Type_eb1_be (make_Type_eb1_m m) (fun h => make_Type_eb1_me m h) h
theorem make_Type_eb1_ev {depth : Int} {o0 : S_make_Deck} {r : Typ × Int} (h : make_Type_eb1 depth o0 = some r) : Ev Tryz.prog GL 10 [.ptr 1000 0, .d (.int .i64 depth)] [(1000, .cells ((cS_make_Deck o0).map V.d) 58)] (.agg ((dTy r.1).map V.d)) [(1000, .cells [.d (.slice (dInts o0.L)), .d (.int .i64 r.2)] 58)] := make_Type_eb1_me FU h
theorem make_Context_6f7_ev {o0 : S_make_Deck} {r : List Typ × Int} (h : make_Context_6f7 o0 = some r) : Ev Tryz.prog GL 8 [.ptr 1000 0] [(1000, .cells ((cS_make_Deck o0).map V.d) 58)] (.d (.slice (dTys r.1))) [(1000, .cells [.d (.slice (dInts o0.L)), .d (.int .i64 r.2)] 58)] := by
  refine evb pg Tryz.func8 rfl (by kernel_rfl) 17 [.tmp 2] rfl rfl rfl (fun E ι0 => ?_)
  refine rg pg ?_
  refine rg pg ?_
  refine sq ?_
  refine rg pg ?_
  obtain ⟨r1, h2, h⟩ := bndB h
  refine callW [(1000, 1000)] (make_Deck_Next_eb1_ev h2) rfl rfl rfl rfl rfl ?_
  refine bk ?_
  refine wrN 201 3 2 25 rfl rfl ?_
  refine loopK (X := List Typ × Int × Int) (fun x4 => ⟨[(0, .ptr 1000 0), (3, .own (dTys x4.1) 201), (4, .d (.int .i64 x4.2.1))], [(1000, some (.cells [.d (.slice (dInts o0.L)), .d (.int .i64 x4.2.2)] 58)), (201, some (.row (dTys x4.1).length 2 25))], [1000, 201]⟩) h rfl rfl rfl (fun k3 x4 h => ?_)
  refine sq ?_
  refine rg pg ?_
  refine cd h rfl (fun h hb26 => ?_) (fun h hb26 => ?_)
  ·refine sk ?_
   refine sq ?_
   refine bk ?_
   refine rl pg ?_
   obtain ⟨r27, h28, h⟩ := bndB h
   refine callW [(1000, 1000)] (make_Type_eb1_ev h28) rfl rfl rfl rfl rfl ?_
   refine Ask.mk ⟨rfl, rfl⟩ (BsW.mk (dTys_map [r27.1]).symm (dTys_sz _) ?_)
   obtain ⟨p29, h⟩ := gdB h
   refine Ask.mk ⟨rfl, rfl, rfl⟩ (AppW.mk (dTys_app _ _) (dTys_sz _) (dTys_sz _) (by rw [dTys_len, dTys_len]; exact p29) ?_)
   refine rl pg ?_
   exact jt ((x4.1 ++ [r27.1]), (w64 (x4.2.1 - 1)), r27.2) h rfl rfl rfl
  ·refine ex ?_
   refine rg pg ?_
   refine rt ?_
   obtain rfl := Option.some.inj h
   exact en rfl rfl
theorem make_vars_ev {g : List Typ} {t : Typ} {r : List Int} (h : make_vars g t = some r) : Ev Tryz.prog GL 30 [.d (.slice (dTys g)), .agg ((dTy t).map V.d)] [] (.d (.slice (dInts r))) [] := by
  refine evb pg Tryz.func30 rfl (by kernel_rfl) 28 [.tmp 4] rfl rfl rfl (fun E ι0 => ?_)
  refine rg pg ?_
  refine rg pg ?_
  refine sq ?_
  refine rg pg ?_
  refine LenW.mk (dTys_len _) ?_
  refine wrN 201 5 1 3 rfl rfl ?_
  refine rangeK (X := List Int) pg g _ rfl (fun x5 => [(0, .d (.slice (dTys g))), (3, .ptr 3 0), (5, .own (dInts x5) 201)]) (fun x5 => [(3, some (.cells ((dTy t).map V.d) 25)), (201, some (.row (dInts x5).length 1 3))]) [3, 201] h rfl rfl rfl rfl (fun _ => ⟨rfl, rfl⟩) 0 rfl (dTys_len _) (fun k2 i3 a1 x5 _ g4 h => ?_) (fun x5 h => ?_)
  ·refine rg pg ?_
   refine rgd pg ?_
   refine LenW.mk (dTys_len _) ?_
   obtain ⟨a30, p31, g32, h⟩ := idxB h
   refine IdxW.mk p31 (dTys_get g32) rfl ?_
   obtain ⟨r33, h34, h⟩ := bndB h
   refine callW0 (ref01_Same_ev h34) rfl ?_
   refine Ask.mk (by kernel_rfl) ?_
   refine cd h rfl (fun h hb35 => ?_) (fun h hb35 => ?_)
   ·refine rl pg ?_
    refine Ask.mk ⟨rfl, rfl⟩ (BsW.mk (dInts_map [(i3 : Int)]).symm (dInts_sz _) ?_)
    obtain ⟨p36, h⟩ := gdB h
    refine Ask.mk ⟨rfl, rfl, rfl⟩ (AppW.mk (dInts_app _ _) (dInts_sz _) (dInts_sz _) (by rw [dInts_len, dInts_len]; exact p36) ?_)
    exact jt (x5 ++ [(i3 : Int)]) h rfl rfl rfl
   ·refine sk ?_
    exact jt x5 h rfl rfl rfl
  ·refine rg pg ?_
   refine rt ?_
   obtain rfl := Option.some.inj h
   exact en rfl rfl
theorem make_longer_ev {g : List Typ} {l : List Typ} {r : List Typ} (h : make_longer g l = some r) : Ev Tryz.prog GL 31 [.d (.slice (dTys g)), .d (.slice (dTys l))] [] (.d (.slice (dTys r))) [] := by
  refine evb pg Tryz.func31 rfl (by kernel_rfl) 9 [.tmp 4] rfl rfl rfl (fun E ι0 => ?_)
  refine rg pg ?_
  refine rg pg ?_
  obtain ⟨p1, h⟩ := gdB h
  refine AppW.mk (List.nil_append _) (fun _ h => by cases h) (dTys_sz _) (by rw [dTys_len, List.length_nil, Nat.zero_add]; exact p1) ?_
  obtain ⟨p2, h⟩ := gdB h
  refine Ask.mk ⟨rfl, rfl, rfl⟩ (AppW.mk (dTys_app _ _) (dTys_sz _) (dTys_sz _) (by rw [dTys_len, dTys_len]; exact p2) ?_)
  refine rt ?_
  obtain rfl := Option.some.inj h
  exact en rfl rfl
theorem ref05_numeral_ev {n : Int} {r : Trm} (h : ref05_numeral n = some r) : Ev Tryz.prog GL 82 [.d (.int .i64 n)] [] (.agg ((dTm r).map V.d)) [] := by
  refine evb pg Tryz.func82 rfl (by kernel_rfl) 13 [.cell 2 28] rfl rfl rfl (fun E ι0 => ?_)
  refine rg pg ?_
  refine rg pg ?_
  obtain ⟨r1, h2, h⟩ := bndB h
  refine callW0 (ref02_N_ev h2) rfl ?_
  refine sq ?_
  refine bk ?_
  refine loopK (X := Int × Trm) (fun x4 => ⟨[(0, .d (.int .i64 x4.1)), (2, .ptr 2 0), (3, .ptr 3 0)], [(2, some (.cells [.d (.int .i64 0), .d (.int .i64 0), .d (.int .i64 0), .d .nils, .d .nils] 28)), (3, some (.cells ((dTm x4.2).map V.d) 28))], [2, 3]⟩) h rfl rfl rfl (fun k3 x4 h => ?_)
  refine sq ?_
  refine rg pg ?_
  refine cd h rfl (fun h hb13 => ?_) (fun h hb13 => ?_)
  ·refine sk ?_
   refine sq ?_
   refine bk ?_
   refine rl pg ?_
   refine Ask.mk ⟨rfl, rfl⟩ (BsW.mk (dTms_map [x4.2]).symm (dTms_sz _) ?_)
   refine rl pg ?_
   exact jt ((w64 (x4.1 - 1)), (Trm.mk 5 0 (Typ.mk 0 ([] : List Typ)) [x4.2])) h rfl rfl rfl
  ·refine ex ?_
   refine rg pg ?_
   refine rt ?_
   obtain rfl := Option.some.inj h
   exact en rfl rfl
theorem ref05_Number_ev {n : Int} {r : Trm × Int} (h : ref05_Number n = some r) : Ev Tryz.prog GL 64 [.d (.int .i64 n)] [] (.tup [.agg ((dTm r.1).map V.d), .d (.int .i64 r.2)]) [] := by
  refine evb pg Tryz.func64 rfl (by kernel_rfl) 12 [.cell 2 28, .tmp 3] rfl rfl rfl (fun E ι0 => ?_)
  refine rg pg ?_
  refine sq ?_
  refine rg pg ?_
  refine cd h rfl (fun h hb1 => ?_) (fun h hb1 => ?_)
  ·refine rg pg ?_
   refine rt ?_
   obtain rfl := Option.some.inj h
   exact en rfl rfl
  ·refine sk ?_
   refine sq ?_
   refine rg pg ?_
   refine cd h rfl (fun h hb2 => ?_) (fun h hb2 => ?_)
   ·refine rg pg ?_
    refine rt ?_
    obtain rfl := Option.some.inj h
    exact en rfl rfl
   ·refine sk ?_
    refine rg pg ?_
    obtain ⟨r3, h4, h⟩ := bndB h
    refine callW0 (ref05_numeral_ev h4) rfl ?_
    refine rt ?_
    obtain rfl := Option.some.inj h
    exact en rfl rfl
theorem make_Num_ev {n : Int} {r : Trm} (h : make_Num n = some r) : Ev Tryz.prog GL 32 [.d (.int .i64 n)] [] (.agg ((dTm r).map V.d)) [] := by
  refine evb pg Tryz.func32 rfl (by kernel_rfl) 11 [.cell 2 28] rfl rfl rfl (fun E ι0 => ?_)
  refine rg pg ?_
  refine rg pg ?_
  obtain ⟨r1, h2, h⟩ := bndB h
  refine callW0 (ref05_Number_ev h2) rfl ?_
  refine rg pg ?_
  refine rt ?_
  obtain rfl := Option.some.inj h
  exact en rfl rfl
theorem ref05_lam_ev {t : Trm} {r : Trm} (h : ref05_lam t = some r) : Ev Tryz.prog GL 65 [.agg ((dTm t).map V.d)] [] (.agg ((dTm r).map V.d)) [] := by
  refine evb pg Tryz.func65 rfl (by kernel_rfl) 7 [.cell 2 28] rfl rfl rfl (fun E ι0 => ?_)
  refine rg pg ?_
  refine rgd pg ?_
  obtain ⟨r1, h2, h⟩ := bndB h
  refine callW0 (ref01_Nat_ev h2) rfl ?_
  refine Ask.mk ⟨rfl, rfl⟩ (BsW.mk (dTms_map [t]).symm (dTms_sz _) ?_)
  obtain ⟨r3, h4, h⟩ := bndB h
  refine callW0 (ref02_T_ev h4) rfl ?_
  refine Ask.mk (by kernel_rfl) ?_
  refine rt ?_
  obtain rfl := Option.some.inj h
  exact en rfl rfl
theorem ref05_rec_ev {b : Trm} {f : Trm} {n : Trm} {r : Trm} (h : ref05_rec b f n = some r) : Ev Tryz.prog GL 66 [.agg ((dTm b).map V.d), .agg ((dTm f).map V.d), .agg ((dTm n).map V.d)] [] (.agg ((dTm r).map V.d)) [] := by
  refine evb pg Tryz.func66 rfl (by kernel_rfl) 13 [.cell 6 28] rfl rfl rfl (fun E ι0 => ?_)
  refine rg pg ?_
  refine rgd pg ?_
  obtain ⟨r1, h2, h⟩ := bndB h
  refine callW0 (ref01_Nat_ev h2) rfl ?_
  refine Ask.mk ⟨rfl, rfl⟩ (BsW.mk (dTms_map [b, f, n]).symm (dTms_sz _) ?_)
  obtain ⟨r3, h4, h⟩ := bndB h
  refine callW0 (ref02_T_ev h4) rfl ?_
  refine Ask.mk (by kernel_rfl) ?_
  refine rt ?_
  obtain rfl := Option.some.inj h
  exact en rfl rfl
theorem ref05_Plus_ev {_u : Unit} {r : Trm} (h : ref05_Plus _u = some r) : Ev Tryz.prog GL 36 [] [] (.agg ((dTm r).map V.d)) [] := by
  refine evb pg Tryz.func36 rfl (by kernel_rfl) 11 [.cell 0 28] rfl rfl rfl (fun E ι0 => ?_)
  refine rg pg ?_
  refine rg pg ?_
  obtain ⟨r1, h2, h⟩ := bndB h
  refine callW0 (ref02_Var_ev h2) rfl ?_
  obtain ⟨r3, h4, h⟩ := bndB h
  refine callW0 (ref02_Var_ev h4) rfl ?_
  refine Ask.mk ⟨rfl, rfl⟩ (BsW.mk (dTms_map [r3]).symm (dTms_sz _) ?_)
  obtain ⟨r5, h6, h⟩ := bndB h
  refine callW0 (ref02_N_ev h6) rfl ?_
  obtain ⟨r7, h8, h⟩ := bndB h
  refine callW0 (ref05_lam_ev h8) rfl ?_
  obtain ⟨r9, h10, h⟩ := bndB h
  refine callW0 (ref05_lam_ev h10) rfl ?_
  obtain ⟨r11, h12, h⟩ := bndB h
  refine callW0 (ref02_Var_ev h12) rfl ?_
  obtain ⟨r13, h14, h⟩ := bndB h
  refine callW0 (ref05_rec_ev h14) rfl ?_
  obtain ⟨r15, h16, h⟩ := bndB h
  refine callW0 (ref05_lam_ev h16) rfl ?_
  obtain ⟨r17, h18, h⟩ := bndB h
  refine callW0 (ref05_lam_ev h18) rfl ?_
  refine rt ?_
  obtain rfl := Option.some.inj h
  exact en rfl rfl
theorem make_App_ev {f : Trm} {l : List Trm} {r : Trm} (h : make_App f l = some r) : Ev Tryz.prog GL 35 [.agg ((dTm f).map V.d), .d (.slice (dTms l))] [] (.agg ((dTm r).map V.d)) [] := by
  refine evb pg Tryz.func35 rfl (by kernel_rfl) 19 [.cell 4 28] rfl rfl rfl (fun E ι0 => ?_)
  refine rg pg ?_
  refine sq ?_
  refine rg pg ?_
  refine LenW.mk (dTms_len _) ?_
  refine rangeK (X := Trm) pg l _ rfl (fun x5 => [(2, .ptr 2 0), (4, .ptr 4 0), (7, .d (.slice (dTms l)))]) (fun x5 => [(2, some (.cells ((dTm x5).map V.d) 28)), (4, some (.cells [.d (.int .i64 0), .d (.int .i64 0), .d (.int .i64 0), .d .nils, .d .nils] 28))]) [2, 4] h rfl rfl rfl rfl (fun _ => ⟨rfl, rfl⟩) 1 rfl (dTms_len _) (fun k2 i3 a1 x5 _ g4 h => ?_) (fun x5 h => ?_)
  ·refine rg pg ?_
   refine IdxW.mk (Int.natCast_nonneg _) (dTms_get g4) rfl ?_
   refine rl pg ?_
   refine Ask.mk ⟨rfl, rfl⟩ (BsW.mk (dTms_map [x5, a1]).symm (dTms_sz _) ?_)
   obtain ⟨r13, h14, h⟩ := bndB h
   refine callW0 (ref02_N_ev h14) rfl ?_
   exact jt r13 h rfl rfl rfl
  ·refine rg pg ?_
   refine rt ?_
   obtain rfl := Option.some.inj h
   exact en rfl rfl
theorem ref05_Pred_ev {_u : Unit} {r : Trm} (h : ref05_Pred _u = some r) : Ev Tryz.prog GL 67 [] [] (.agg ((dTm r).map V.d)) [] := by
  refine evb pg Tryz.func67 rfl (by kernel_rfl) 8 [.cell 0 28] rfl rfl rfl (fun E ι0 => ?_)
  refine rg pg ?_
  refine rg pg ?_
  obtain ⟨r1, h2, h⟩ := bndB h
  refine callW0 (ref02_N_ev h2) rfl ?_
  obtain ⟨r3, h4, h⟩ := bndB h
  refine callW0 (ref02_Var_ev h4) rfl ?_
  obtain ⟨r5, h6, h⟩ := bndB h
  refine callW0 (ref05_lam_ev h6) rfl ?_
  obtain ⟨r7, h8, h⟩ := bndB h
  refine callW0 (ref05_lam_ev h8) rfl ?_
  obtain ⟨r9, h10, h⟩ := bndB h
  refine callW0 (ref02_Var_ev h10) rfl ?_
  obtain ⟨r11, h12, h⟩ := bndB h
  refine callW0 (ref05_rec_ev h12) rfl ?_
  obtain ⟨r13, h14, h⟩ := bndB h
  refine callW0 (ref05_lam_ev h14) rfl ?_
  refine rt ?_
  obtain rfl := Option.some.inj h
  exact en rfl rfl
theorem ref05_Sub_ev {_u : Unit} {r : Trm} (h : ref05_Sub _u = some r) : Ev Tryz.prog GL 37 [] [] (.agg ((dTm r).map V.d)) [] := by
  refine evb pg Tryz.func37 rfl (by kernel_rfl) 12 [.cell 0 28] rfl rfl rfl (fun E ι0 => ?_)
  refine rg pg ?_
  refine rg pg ?_
  obtain ⟨r1, h2, h⟩ := bndB h
  refine callW0 (ref02_Var_ev h2) rfl ?_
  obtain ⟨r3, h4, h⟩ := bndB h
  refine callW0 (ref05_Pred_ev h4) rfl ?_
  obtain ⟨r5, h6, h⟩ := bndB h
  refine callW0 (ref02_Var_ev h6) rfl ?_
  refine Ask.mk ⟨rfl, rfl⟩ (BsW.mk (dTms_map [r3, r5]).symm (dTms_sz _) ?_)
  obtain ⟨r7, h8, h⟩ := bndB h
  refine callW0 (ref02_N_ev h8) rfl ?_
  obtain ⟨r9, h10, h⟩ := bndB h
  refine callW0 (ref05_lam_ev h10) rfl ?_
  obtain ⟨r11, h12, h⟩ := bndB h
  refine callW0 (ref05_lam_ev h12) rfl ?_
  obtain ⟨r13, h14, h⟩ := bndB h
  refine callW0 (ref02_Var_ev h14) rfl ?_
  obtain ⟨r15, h16, h⟩ := bndB h
  refine callW0 (ref05_rec_ev h16) rfl ?_
  obtain ⟨r17, h18, h⟩ := bndB h
  refine callW0 (ref05_lam_ev h18) rfl ?_
  obtain ⟨r19, h20, h⟩ := bndB h
  refine callW0 (ref05_lam_ev h20) rfl ?_
  refine rt ?_
  obtain rfl := Option.some.inj h
  exact en rfl rfl
theorem make_Term_02b_be (self : (List Typ) → Typ → Int → S_make_Deck → Option (Trm × Int)) (hs : ∀ {g : List Typ} {t : Typ} {depth : Int} {o0 : S_make_Deck} {r : Trm × Int}, self g t depth o0 = some r → Ev Tryz.prog GL 9 [.ptr 1000 0, .d (.slice (dTys g)), .agg ((dTy t).map V.d), .d (.int .i64 depth)] [(1000, .cells ((cS_make_Deck o0).map V.d) 58)] (.agg ((dTm r.1).map V.d)) [(1000, .cells [.d (.slice (dInts o0.L)), .d (.int .i64 r.2)] 58)]) {g : List Typ} {t : Typ} {depth : Int} {o0 : S_make_Deck} {r : Trm × Int} (h : make_Term_02b_b self g t depth o0 = some r) : Ev Tryz.prog GL 9 [.ptr 1000 0, .d (.slice (dTys g)), .agg ((dTy t).map V.d), .d (.int .i64 depth)] [(1000, .cells ((cS_make_Deck o0).map V.d) 58)] (.agg ((dTm r.1).map V.d)) [(1000, .cells [.d (.slice (dInts o0.L)), .d (.int .i64 r.2)] 58)] := by
  refine evb pg Tryz.func9 rfl (by kernel_rfl) 338 [.cell 8 28] rfl rfl rfl (fun E ι0 => ?_)
  refine rg pg ?_
  refine rg pg ?_
  obtain ⟨r1, h2, h⟩ := bndB h
  refine callW0 (make_vars_ev h2) rfl ?_
  refine join (fun x15 : Int => ⟨[(0, .ptr 1000 0), (1, .d (.slice (dTys g))), (3, .d (.int .i64 depth)), (6, .ptr 6 0), (8, .ptr 8 0)], [(1000, some (.cells [.d (.slice (dInts o0.L)), .d (.int .i64 x15)] 58)), (6, some (.cells ((dTy t).map V.d) 25)), (8, some (.cells [.d (.int .i64 0), .d (.int .i64 0), .d (.int .i64 0), .d .nils, .d .nils] 28))], [1000, 6, 8]⟩) (fun x15 => make_Term_02b_k1 self g t depth o0 x15) r ?_ (fun x15 h => ?_)
  ·refine rg pg ?_
   refine LenW.mk (dInts_len _) ?_
   refine gwT h (fun h hb3 => ?_) (fun h hb3 => ?_)
   ·refine gl rfl ?_
    obtain ⟨r4, h5, h⟩ := bndB h
    refine callW [(1000, 1000)] (make_Deck_Next_eb1_ev h5) rfl rfl rfl rfl rfl ?_
    refine gl rfl ?_
    refine cd h rfl (fun h hb6 => ?_) (fun h hb6 => ?_)
    ·refine rg pg ?_
     refine LenW.mk (dInts_len _) ?_
     obtain ⟨r7, h8, h⟩ := bndB h
     refine callW [(1000, 1000)] (make_Deck_Next_eb1_ev h8) rfl rfl rfl rfl rfl ?_
     obtain ⟨a9, p10, g11, h⟩ := idxB h
     refine IdxW.mk p10 (dInts_get g11) rfl ?_
     obtain ⟨r12, h13, h⟩ := bndB h
     refine callW0 (ref02_Var_ev h13) rfl ?_
     refine rt ?_
     obtain rfl := Option.some.inj h
     exact en rfl rfl
    ·refine sk ?_
     exact jt r4.2 h rfl rfl rfl
   ·refine gf rfl ?_
    refine gf rfl ?_
    refine cdF rfl ?_
    refine sk ?_
    exact jt o0.At h rfl rfl rfl
  ·as_aux_lemma =>
   refine join (fun x147 : Int => ⟨[(0, .ptr 1000 0), (1, .d (.slice (dTys g))), (3, .d (.int .i64 depth)), (6, .ptr 6 0), (8, .ptr 8 0)], [(1000, some (.cells [.d (.slice (dInts o0.L)), .d (.int .i64 x147)] 58)), (6, some (.cells ((dTy t).map V.d) 25)), (8, some (.cells [.d (.int .i64 0), .d (.int .i64 0), .d (.int .i64 0), .d .nils, .d .nils] 28))], [1000, 6, 8]⟩) (fun x147 => make_Term_02b_k2 self g t depth o0 x147) r ?_ (fun x147 h => ?_)
   ·as_aux_lemma =>
    refine rg pg ?_
    refine cd h rfl (fun h hb16 => ?_) (fun h hb16 => ?_)
    ·as_aux_lemma =>
     refine rg pg ?_
     obtain ⟨r17, h18, h⟩ := bndB h
     refine callW [(1000, 1000)] (make_Deck_Next_eb1_ev h18) rfl rfl rfl rfl rfl ?_
     refine bk ?_
     refine rg pg ?_
     refine cd h rfl (fun h hb19 => ?_) (fun h hb19 => ?_)
     ·refine rg pg ?_
      obtain ⟨r20, h21, h⟩ := bndB h
      refine callW [(1000, 1000)] (make_Type_eb1_ev h21) rfl rfl rfl rfl rfl ?_
      refine rgd pg ?_
      refine Ask.mk ⟨rfl, rfl⟩ (BsW.mk (dTys_map [r20.1]).symm (dTys_sz _) ?_)
      obtain ⟨r22, h23, h⟩ := bndB h
      refine callW0 (make_longer_ev h23) rfl ?_
      obtain ⟨r24, h25, h⟩ := bndB h
      refine callW [(1000, 1000)] (hs h25) rfl rfl rfl rfl rfl ?_
      refine Ask.mk ⟨rfl, rfl⟩ (BsW.mk (dTms_map [r24.1]).symm (dTms_sz _) ?_)
      obtain ⟨r26, h27, h⟩ := bndB h
      refine callW0 (ref02_T_ev h27) rfl ?_
      obtain ⟨r28, h29, h⟩ := bndB h
      refine callW [(1000, 1000)] (hs h29) rfl rfl rfl rfl rfl ?_
      refine Ask.mk ⟨rfl, rfl⟩ (BsW.mk (dTms_map [r26, r28.1]).symm (dTms_sz _) ?_)
      obtain ⟨r30, h31, h⟩ := bndB h
      refine callW0 (ref02_N_ev h31) rfl ?_
      refine Ask.mk (by kernel_rfl) ?_
      refine rt ?_
      obtain rfl := Option.some.inj h
      exact en rfl rfl
     ·as_aux_lemma =>
      refine rg pg ?_
      refine cd h rfl (fun h hb32 => ?_) (fun h hb32 => ?_)
      ·refine rg pg ?_
       obtain ⟨r33, h34, h⟩ := bndB h
       refine callW [(1000, 1000)] (make_Type_eb1_ev h34) rfl rfl rfl rfl rfl ?_
       refine rgd pg ?_
       obtain ⟨r35, h36, h⟩ := bndB h
       refine callW [(1000, 1000)] (hs h36) rfl rfl rfl rfl rfl ?_
       obtain ⟨r37, h38, h⟩ := bndB h
       refine callW [(1000, 1000)] (hs h38) rfl rfl rfl rfl rfl ?_
       refine Ask.mk ⟨rfl, rfl⟩ (BsW.mk (dTms_map [r35.1, r37.1]).symm (dTms_sz _) ?_)
       obtain ⟨r39, h40, h⟩ := bndB h
       refine callW0 (ref02_N_ev h40) rfl ?_
       refine Ask.mk ⟨rfl, rfl⟩ (BsW.mk (dTms_map [r39]).symm (dTms_sz _) ?_)
       obtain ⟨r41, h42, h⟩ := bndB h
       refine callW0 (ref02_N_ev h42) rfl ?_
       refine Ask.mk (by kernel_rfl) ?_
       refine rt ?_
       obtain rfl := Option.some.inj h
       exact en rfl rfl
      ·as_aux_lemma =>
       refine rg pg ?_
       refine cd h rfl (fun h hb43 => ?_) (fun h hb43 => ?_)
       ·as_aux_lemma =>
        refine rgd pg ?_
        obtain ⟨r44, h45, h⟩ := bndB h
        refine callW0 (ref01_Nat_ev h45) rfl ?_
        obtain ⟨r46, h47, h⟩ := bndB h
        refine callW0 (ref01_Nat_ev h47) rfl ?_
        refine Ask.mk ⟨rfl, rfl⟩ (BsW.mk (dTys_map [r46, t]).symm (dTys_sz _) ?_)
        obtain ⟨r48, h49, h⟩ := bndB h
        refine callW0 (make_longer_ev h49) rfl ?_
        obtain ⟨r50, h51, h⟩ := bndB h
        refine callW [(1000, 1000)] (hs h51) rfl rfl rfl rfl rfl ?_
        refine Ask.mk ⟨rfl, rfl⟩ (BsW.mk (dTms_map [r50.1]).symm (dTms_sz _) ?_)
        obtain ⟨r52, h53, h⟩ := bndB h
        refine callW0 (ref02_T_ev h53) rfl ?_
        refine Ask.mk ⟨rfl, rfl⟩ (BsW.mk (dTms_map [r52]).symm (dTms_sz _) ?_)
        obtain ⟨r54, h55, h⟩ := bndB h
        refine callW0 (ref02_T_ev h55) rfl ?_
        refine Ask.mk (by kernel_rfl) ?_
        refine rgd pg ?_
        obtain ⟨r56, h57, h⟩ := bndB h
        refine callW [(1000, 1000)] (hs h57) rfl rfl rfl rfl rfl ?_
        obtain ⟨r58, h59, h⟩ := bndB h
        refine callW [(1000, 1000)] (make_Deck_Next_eb1_ev h59) rfl rfl rfl rfl rfl ?_
        obtain ⟨r60, h61, h⟩ := bndB h
        refine callW0 (make_Num_ev h61) rfl ?_
        refine Ask.mk ⟨rfl, rfl⟩ (BsW.mk (dTms_map [r56.1, r54, r60]).symm (dTms_sz _) ?_)
        obtain ⟨r62, h63, h⟩ := bndB h
        refine callW0 (ref02_T_ev h63) rfl ?_
        refine Ask.mk (by kernel_rfl) ?_
        refine rt ?_
        obtain rfl := Option.some.inj h
        exact en rfl rfl
       ·as_aux_lemma =>
        refine rg pg ?_
        refine cd h rfl (fun h hb64 => ?_) (fun h hb64 => ?_)
        ·as_aux_lemma =>
         refine rgd pg ?_
         obtain ⟨r65, h66, h⟩ := bndB h
         refine callW0 (ref01_Nat_ev h66) rfl ?_
         obtain ⟨r67, h68, h⟩ := bndB h
         refine callW0 (ref01_List_ev h68) rfl ?_
         obtain ⟨r69, h70, h⟩ := bndB h
         refine callW0 (ref01_Nat_ev h70) rfl ?_
         obtain ⟨r71, h72, h⟩ := bndB h
         refine callW0 (ref01_List_ev h72) rfl ?_
         refine Ask.mk ⟨rfl, rfl⟩ (BsW.mk (dTys_map [r69, r71, t]).symm (dTys_sz _) ?_)
         obtain ⟨r73, h74, h⟩ := bndB h
         refine callW0 (make_longer_ev h74) rfl ?_
         obtain ⟨r75, h76, h⟩ := bndB h
         refine callW [(1000, 1000)] (hs h76) rfl rfl rfl rfl rfl ?_
         refine Ask.mk ⟨rfl, rfl⟩ (BsW.mk (dTms_map [r75.1]).symm (dTms_sz _) ?_)
         obtain ⟨r77, h78, h⟩ := bndB h
         refine callW0 (ref02_T_ev h78) rfl ?_
         refine Ask.mk ⟨rfl, rfl⟩ (BsW.mk (dTms_map [r77]).symm (dTms_sz _) ?_)
         obtain ⟨r79, h80, h⟩ := bndB h
         refine callW0 (ref02_T_ev h80) rfl ?_
         refine Ask.mk ⟨rfl, rfl⟩ (BsW.mk (dTms_map [r79]).symm (dTms_sz _) ?_)
         obtain ⟨r81, h82, h⟩ := bndB h
         refine callW0 (ref02_T_ev h82) rfl ?_
         refine Ask.mk (by kernel_rfl) ?_
         refine rgd pg ?_
         obtain ⟨r83, h84, h⟩ := bndB h
         refine callW [(1000, 1000)] (hs h84) rfl rfl rfl rfl rfl ?_
         obtain ⟨r85, h86, h⟩ := bndB h
         refine callW0 (ref01_List_ev h86) rfl ?_
         obtain ⟨r87, h88, h⟩ := bndB h
         refine callW [(1000, 1000)] (hs h88) rfl rfl rfl rfl rfl ?_
         refine Ask.mk ⟨rfl, rfl⟩ (BsW.mk (dTms_map [r83.1, r81, r87.1]).symm (dTms_sz _) ?_)
         obtain ⟨r89, h90, h⟩ := bndB h
         refine callW0 (ref02_T_ev h90) rfl ?_
         refine Ask.mk (by kernel_rfl) ?_
         refine rt ?_
         obtain rfl := Option.some.inj h
         exact en rfl rfl
        ·as_aux_lemma =>
         refine rg pg ?_
         refine cd h rfl (fun h hb91 => ?_) (fun h hb91 => ?_)
         ·refine rg pg ?_
          obtain ⟨r92, h93, h⟩ := bndB h
          refine callW [(1000, 1000)] (make_Type_eb1_ev h93) rfl rfl rfl rfl rfl ?_
          refine rgd pg ?_
          obtain ⟨r94, h95, h⟩ := bndB h
          refine callW [(1000, 1000)] (hs h95) rfl rfl rfl rfl rfl ?_
          obtain ⟨r96, h97, h⟩ := bndB h
          refine callW [(1000, 1000)] (hs h97) rfl rfl rfl rfl rfl ?_
          refine Ask.mk ⟨rfl, rfl⟩ (BsW.mk (dTms_map [r94.1, r96.1]).symm (dTms_sz _) ?_)
          obtain ⟨r98, h99, h⟩ := bndB h
          refine callW0 (ref02_N_ev h99) rfl ?_
          refine Ask.mk ⟨rfl, rfl⟩ (BsW.mk (dTms_map [r98]).symm (dTms_sz _) ?_)
          obtain ⟨r100, h101, h⟩ := bndB h
          refine callW0 (ref02_N_ev h101) rfl ?_
          refine Ask.mk (by kernel_rfl) ?_
          refine rt ?_
          obtain rfl := Option.some.inj h
          exact en rfl rfl
         ·as_aux_lemma =>
          refine rg pg ?_
          refine cd h rfl (fun h hb102 => ?_) (fun h hb102 => ?_)
          ·as_aux_lemma =>
           refine rg pg ?_
           refine LenW.mk (dTys_len _) ?_
           refine rangeK (X := Unit) pg g _ rfl (fun x107 => [(0, .ptr 1000 0), (1, .d (.slice (dTys g))), (3, .d (.int .i64 depth)), (6, .ptr 6 0), (8, .ptr 8 0)]) (fun x107 => [(1000, some (.cells [.d (.slice (dInts o0.L)), .d (.int .i64 r17.2)] 58)), (6, some (.cells ((dTy t).map V.d) 25)), (8, some (.cells [.d (.int .i64 0), .d (.int .i64 0), .d (.int .i64 0), .d .nils, .d .nils] 28))]) [1000, 6, 8] h rfl rfl rfl rfl (fun _ => ⟨rfl, rfl⟩) 1 rfl (dTys_len _) (fun k104 i105 a103 x107 _ g106 h => ?_) (fun x107 h => ?_)
           ·as_aux_lemma =>
            refine rg pg ?_
            refine rg pg ?_
            refine LenW.mk (dTys_len _) ?_
            obtain ⟨a127, p128, g129, h⟩ := idxB h
            refine IdxW.mk p128 (dTys_get g129) rfl ?_
            refine rgd pg ?_
            refine gwT h (fun h hb130 => ?_) (fun h hb130 => ?_)
            ·refine gl rfl ?_
             refine gl rfl ?_
             obtain ⟨a131, p132, g133, h⟩ := idxB h
             refine IdxW.mk p132 (dTys_get g133) rfl ?_
             refine gl rfl ?_
             refine gl rfl ?_
             refine gl rfl ?_
             obtain ⟨r134, h135, h⟩ := bndB h
             refine callW0 (ref01_Same_ev h135) rfl ?_
             refine Ask.mk (by kernel_rfl) ?_
             refine cd h rfl (fun h hb136 => ?_) (fun h hb136 => ?_)
             ·refine rgd pg ?_
              obtain ⟨r137, h138, h⟩ := bndB h
              refine callW0 (ref02_Var_ev h138) rfl ?_
              obtain ⟨a139, p140, g141, h⟩ := idxB h
              refine IdxW.mk p140 (dTys_get g141) rfl ?_
              obtain ⟨r142, h143, h⟩ := bndB h
              refine callW [(1000, 1000)] (hs h143) rfl rfl rfl rfl rfl ?_
              refine Ask.mk ⟨rfl, rfl⟩ (BsW.mk (dTms_map [r137, r142.1]).symm (dTms_sz _) ?_)
              obtain ⟨r144, h145, h⟩ := bndB h
              refine callW0 (ref02_N_ev h145) rfl ?_
              refine Ask.mk (by kernel_rfl) ?_
              refine rt ?_
              obtain rfl := Option.some.inj h
              exact en rfl rfl
             ·refine sk ?_
              exact jt () h rfl rfl rfl
            ·refine gf rfl ?_
             refine gf rfl ?_
             refine gf rfl ?_
             refine gf rfl ?_
             refine gf rfl ?_
             refine Ask.mk (by kernel_rfl) ?_
             refine cdF rfl ?_
             refine sk ?_
             exact jt () h rfl rfl rfl
           ·exact jt r17.2 h rfl rfl rfl
          ·refine sk ?_
           exact jt r17.2 h rfl rfl rfl
    ·refine sk ?_
     exact jt x15 h rfl rfl rfl
   ·as_aux_lemma =>
    refine sq ?_
    refine rg pg ?_
    refine bk ?_
    refine rg pg ?_
    refine cd h rfl (fun h hb148 => ?_) (fun h hb148 => ?_)
    ·as_aux_lemma =>
     refine join (fun x176 : Int => ⟨[(0, .ptr 1000 0), (8, .ptr 8 0)], [(1000, some (.cells [.d (.slice (dInts o0.L)), .d (.int .i64 x176)] 58)), (8, some (.cells [.d (.int .i64 0), .d (.int .i64 0), .d (.int .i64 0), .d .nils, .d .nils] 28))], [1000, 8]⟩) (fun x176 => make_Term_02b_k3 o0 x176) r ?_ (fun x176 h => ?_)
     ·as_aux_lemma =>
      refine rg pg ?_
      refine cd h rfl (fun h hb149 => ?_) (fun h hb149 => ?_)
      ·as_aux_lemma =>
       refine rg pg ?_
       obtain ⟨r150, h151, h⟩ := bndB h
       refine callW [(1000, 1000)] (make_Deck_Next_eb1_ev h151) rfl rfl rfl rfl rfl ?_
       refine bk ?_
       refine rg pg ?_
       refine cd h rfl (fun h hb152 => ?_) (fun h hb152 => ?_)
       ·refine rg pg ?_
        obtain ⟨r153, h154, h⟩ := bndB h
        refine callW [(1000, 1000)] (hs h154) rfl rfl rfl rfl rfl ?_
        refine Ask.mk ⟨rfl, rfl⟩ (BsW.mk (dTms_map [r153.1]).symm (dTms_sz _) ?_)
        obtain ⟨r155, h156, h⟩ := bndB h
        refine callW0 (ref02_N_ev h156) rfl ?_
        refine rt ?_
        obtain rfl := Option.some.inj h
        exact en rfl rfl
       ·as_aux_lemma =>
        refine rg pg ?_
        refine cd h rfl (fun h hb157 => ?_) (fun h hb157 => ?_)
        ·refine rgd pg ?_
         obtain ⟨r158, h159, h⟩ := bndB h
         refine callW0 (ref05_Plus_ev h159) rfl ?_
         obtain ⟨r160, h161, h⟩ := bndB h
         refine callW [(1000, 1000)] (hs h161) rfl rfl rfl rfl rfl ?_
         obtain ⟨r162, h163, h⟩ := bndB h
         refine callW [(1000, 1000)] (hs h163) rfl rfl rfl rfl rfl ?_
         refine Ask.mk ⟨rfl, rfl⟩ (BsW.mk (dTms_map [r160.1, r162.1]).symm (dTms_sz _) ?_)
         obtain ⟨r164, h165, h⟩ := bndB h
         refine callW0 (make_App_ev h165) rfl ?_
         refine Ask.mk (by kernel_rfl) ?_
         refine rt ?_
         obtain rfl := Option.some.inj h
         exact en rfl rfl
        ·refine rg pg ?_
         refine cd h rfl (fun h hb166 => ?_) (fun h hb166 => ?_)
         ·refine rgd pg ?_
          obtain ⟨r167, h168, h⟩ := bndB h
          refine callW0 (ref05_Sub_ev h168) rfl ?_
          obtain ⟨r169, h170, h⟩ := bndB h
          refine callW [(1000, 1000)] (hs h170) rfl rfl rfl rfl rfl ?_
          obtain ⟨r171, h172, h⟩ := bndB h
          refine callW [(1000, 1000)] (hs h172) rfl rfl rfl rfl rfl ?_
          refine Ask.mk ⟨rfl, rfl⟩ (BsW.mk (dTms_map [r169.1, r171.1]).symm (dTms_sz _) ?_)
          obtain ⟨r173, h174, h⟩ := bndB h
          refine callW0 (make_App_ev h174) rfl ?_
          refine Ask.mk (by kernel_rfl) ?_
          refine rt ?_
          obtain rfl := Option.some.inj h
          exact en rfl rfl
         ·refine sk ?_
          exact jt r150.2 h rfl rfl rfl
      ·refine sk ?_
       exact jt x147 h rfl rfl rfl
     ·refine rg pg ?_
      obtain ⟨r177, h178, h⟩ := bndB h
      refine callW [(1000, 1000)] (make_Deck_Next_eb1_ev h178) rfl rfl rfl rfl rfl ?_
      obtain ⟨r179, h180, h⟩ := bndB h
      refine callW0 (make_Num_ev h180) rfl ?_
      refine rt ?_
      obtain rfl := Option.some.inj h
      exact en rfl rfl
    ·as_aux_lemma =>
     refine rg pg ?_
     refine cd h rfl (fun h hb181 => ?_) (fun h hb181 => ?_)
     ·as_aux_lemma =>
      refine sq ?_
      refine rg pg ?_
      refine gwT h (fun h hb182 => ?_) (fun h hb182 => ?_)
      ·refine gl rfl ?_
       obtain ⟨r183, h184, h⟩ := bndB h
       refine callW [(1000, 1000)] (make_Deck_Next_eb1_ev h184) rfl rfl rfl rfl rfl ?_
       refine gl rfl ?_
       refine cd h rfl (fun h hb185 => ?_) (fun h hb185 => ?_)
       ·refine rgd pg ?_
        obtain ⟨r186, h187, h⟩ := bndB h
        refine callW0 (ref01_Nat_ev h187) rfl ?_
        obtain ⟨r188, h189, h⟩ := bndB h
        refine callW [(1000, 1000)] (hs h189) rfl rfl rfl rfl rfl ?_
        obtain ⟨r190, h191, h⟩ := bndB h
        refine callW [(1000, 1000)] (hs h191) rfl rfl rfl rfl rfl ?_
        refine Ask.mk ⟨rfl, rfl⟩ (BsW.mk (dTms_map [r188.1, r190.1]).symm (dTms_sz _) ?_)
        obtain ⟨r192, h193, h⟩ := bndB h
        refine callW0 (ref02_N_ev h193) rfl ?_
        refine Ask.mk (by kernel_rfl) ?_
        refine rt ?_
        obtain rfl := Option.some.inj h
        exact en rfl rfl
       ·refine sk ?_
        refine rg pg ?_
        obtain ⟨r194, h195, h⟩ := bndB h
        refine callW0 (ref02_N_ev h195) rfl ?_
        refine rt ?_
        obtain rfl := Option.some.inj h
        exact en rfl rfl
      ·refine gf rfl ?_
       refine gf rfl ?_
       refine cdF rfl ?_
       refine sk ?_
       refine rg pg ?_
       obtain ⟨r196, h197, h⟩ := bndB h
       refine callW0 (ref02_N_ev h197) rfl ?_
       refine rt ?_
       obtain rfl := Option.some.inj h
       exact en rfl rfl
     ·as_aux_lemma =>
      refine rg pg ?_
      refine cd h rfl (fun h hb198 => ?_) (fun h hb198 => ?_)
      ·refine rgd pg ?_
       obtain ⟨a199, p200, g201, h⟩ := idxB h
       refine IdxW.mk p200 (dTys_get g201) rfl ?_
       obtain ⟨r202, h203, h⟩ := bndB h
       refine callW [(1000, 1000)] (hs h203) rfl rfl rfl rfl rfl ?_
       obtain ⟨a204, p205, g206, h⟩ := idxB h
       refine IdxW.mk p205 (dTys_get g206) rfl ?_
       obtain ⟨r207, h208, h⟩ := bndB h
       refine callW [(1000, 1000)] (hs h208) rfl rfl rfl rfl rfl ?_
       refine Ask.mk ⟨rfl, rfl⟩ (BsW.mk (dTms_map [r202.1, r207.1]).symm (dTms_sz _) ?_)
       obtain ⟨r209, h210, h⟩ := bndB h
       refine callW0 (ref02_N_ev h210) rfl ?_
       refine Ask.mk (by kernel_rfl) ?_
       refine rt ?_
       obtain rfl := Option.some.inj h
       exact en rfl rfl
      ·refine rg pg ?_
       refine cd h rfl (fun h hb211 => ?_) (fun h hb211 => ?_)
       ·refine rgd pg ?_
        obtain ⟨a212, p213, g214, h⟩ := idxB h
        refine IdxW.mk p213 (dTys_get g214) rfl ?_
        refine IdxW.mk p213 (dTys_get g214) rfl ?_
        refine Ask.mk ⟨rfl, rfl⟩ (BsW.mk (dTys_map [a212]).symm (dTys_sz _) ?_)
        obtain ⟨r215, h216, h⟩ := bndB h
        refine callW0 (make_longer_ev h216) rfl ?_
        obtain ⟨a217, p218, g219, h⟩ := idxB h
        refine IdxW.mk p218 (dTys_get g219) rfl ?_
        obtain ⟨r220, h221, h⟩ := bndB h
        refine callW [(1000, 1000)] (hs h221) rfl rfl rfl rfl rfl ?_
        refine Ask.mk ⟨rfl, rfl⟩ (BsW.mk (dTms_map [r220.1]).symm (dTms_sz _) ?_)
        obtain ⟨r222, h223, h⟩ := bndB h
        refine callW0 (ref02_T_ev h223) rfl ?_
        refine Ask.mk (by kernel_rfl) ?_
        refine rt ?_
        obtain rfl := Option.some.inj h
        exact en rfl rfl
       ·refine sk ?_
        refine rg pg ?_
        obtain ⟨r224, h225, h⟩ := bndB h
        refine callW0 (ref02_N_ev h225) rfl ?_
        refine rt ?_
        obtain rfl := Option.some.inj h
        exact en rfl rfl
theorem make_Term_02b_me : ∀ (m : Nat) {g : List Typ} {t : Typ} {depth : Int} {o0 : S_make_Deck} {r : Trm × Int}, make_Term_02b_m m g t depth o0 = some r → Ev Tryz.prog GL 9 [.ptr 1000 0, .d (.slice (dTys g)), .agg ((dTy t).map V.d), .d (.int .i64 depth)] [(1000, .cells ((cS_make_Deck o0).map V.d) 58)] (.agg ((dTm r.1).map V.d)) [(1000, .cells [.d (.slice (dInts o0.L)), .d (.int .i64 r.2)] 58)]
  | 0, _, _, _, _, _, h => nomatch (show none = some _ from h)
  | m + 1, _, _, _, _, _, h => make_Term_02b_be (make_Term_02b_m m) (fun h => make_Term_02b_me m h) h
theorem make_Term_02b_ev {g : List Typ} {t : Typ} {depth : Int} {o0 : S_make_Deck} {r : Trm × Int} (h : make_Term_02b g t depth o0 = some r) : Ev Tryz.prog GL 9 [.ptr 1000 0, .d (.slice (dTys g)), .agg ((dTy t).map V.d), .d (.int .i64 depth)] [(1000, .cells ((cS_make_Deck o0).map V.d) 58)] (.agg ((dTm r.1).map V.d)) [(1000, .cells [.d (.slice (dInts o0.L)), .d (.int .i64 r.2)] 58)] := make_Term_02b_me FU h
theorem terms_Check_ev {t : Trm} {r : Int} (h : terms_Check t = some r) : Ev Tryz.prog GL 41 [.agg ((dTm t).map V.d)] [] (.d (.int .i64 r)) [] := by
  refine evb pg Tryz.func41 rfl (by kernel_rfl) 11 [.tmp 2] rfl rfl rfl (fun E ι0 => ?_)
  refine rg pg ?_
  refine rg pg ?_
  obtain ⟨r1, h2, h⟩ := bndB h
  refine callW0 (tree_CheckTerm_ev h2) rfl ?_
  refine rg pg ?_
  refine rt ?_
  obtain rfl := Option.some.inj h
  exact en rfl rfl
theorem subst_Uses_1_595_ev {index : Int} {below : Int} {o1 : List (Int × Bool)} {r : (List (Int × Bool))} (h : subst_Uses_1_595 index below o1 = some r) : Ev Tryz.prog GL 43 [.d (.int .i64 index), .d (.int .i64 below), .ptr 1000 0] [(1000, .cells [.map 1001] 67), (1001, .map ⟨1, dMap kI vB o1⟩)] (.tup []) [(1000, .cells [.map 1001] 67), (1001, .map ⟨1, dMap kI vB r⟩)] := by
  refine evb pg Tryz.func43 rfl (by kernel_rfl) 12 [] rfl rfl rfl (fun E ι0 => ?_)
  refine rg pg ?_
  refine cd h rfl (fun h hb1 => ?_) (fun h hb1 => ?_)
  ·refine rl pg ?_
   refine MSetW.mk (dMap_set (ev := vB) beI o1 (w64 (index - below)) true) ?_
   obtain rfl := Option.some.inj h
   exact enN rfl rfl
  ·refine sk ?_
   obtain rfl := Option.some.inj h
   exact enN rfl rfl
theorem tree_Each_1_8ac_be (self : Trm → Int → (List (Int × Bool)) → Option ((List (Int × Bool)))) (hs : ∀ {t : Trm} {below : Int} {o3 : List (Int × Bool)} {r : (List (Int × Bool))}, self t below o3 = some r → Ev Tryz.prog GL 69 [.agg ((dTm t).map V.d), .d (.int .i64 below), .ptr 1000 0, .ptr 1001 0] [(1000, .cells [.clo 43 [.ptr 1002 0]] 69), (1001, .cells [.clo 69 [.ptr 1000 0, .ptr 1001 0]] 89), (1002, .cells [.map 1003] 67), (1003, .map ⟨1, dMap kI vB o3⟩)] (.tup []) [(1000, .cells [.clo 43 [.ptr 1002 0]] 69), (1001, .cells [.clo 69 [.ptr 1000 0, .ptr 1001 0]] 89), (1002, .cells [.map 1003] 67), (1003, .map ⟨1, dMap kI vB r⟩)]) {t : Trm} {below : Int} {o3 : List (Int × Bool)} {r : (List (Int × Bool))} (h : tree_Each_1_8ac_b self t below o3 = some r) : Ev Tryz.prog GL 69 [.agg ((dTm t).map V.d), .d (.int .i64 below), .ptr 1000 0, .ptr 1001 0] [(1000, .cells [.clo 43 [.ptr 1002 0]] 69), (1001, .cells [.clo 69 [.ptr 1000 0, .ptr 1001 0]] 89), (1002, .cells [.map 1003] 67), (1003, .map ⟨1, dMap kI vB o3⟩)] (.tup []) [(1000, .cells [.clo 43 [.ptr 1002 0]] 69), (1001, .cells [.clo 69 [.ptr 1000 0, .ptr 1001 0]] 89), (1002, .cells [.map 1003] 67), (1003, .map ⟨1, dMap kI vB r⟩)] := by
  refine evb pg Tryz.func69 rfl (by kernel_rfl) 33 [] rfl rfl rfl (fun E ι0 => ?_)
  refine rg pg ?_
  refine join (fun x5 : (List (Int × Bool)) => ⟨[(1, .d (.int .i64 below)), (3, .ptr 1001 0), (4, .ptr 4 0)], [(1001, some (.cells [.clo 69 [.ptr 1000 0, .ptr 1001 0]] 89)), (4, some (.cells ((dTm t).map V.d) 28)), (1000, some (.cells [.clo 43 [.ptr 1002 0]] 69)), (1002, some (.cells [.map 1003] 67)), (1003, some (.map ⟨1, dMap kI vB x5⟩))], [1001, 4, 1000, 1002, 1003]⟩) (fun x5 => tree_Each_1_8ac_k1 self t below x5) r ?_ (fun x5 h => ?_)
  ·refine rg pg ?_
   refine cd h rfl (fun h hb1 => ?_) (fun h hb1 => ?_)
   ·refine rl pg ?_
    obtain ⟨r2, h3, h⟩ := bndB h
    refine callW [(1000, 1002), (1001, 1003)] (subst_Uses_1_595_ev h3) rfl rfl rfl rfl rfl ?_
    exact jt r2 h rfl rfl rfl
   ·refine sk ?_
    exact jt o3 h rfl rfl rfl
  ·refine join (fun x8 : Int => ⟨[(1, .d (.int .i64 x8)), (3, .ptr 1001 0), (4, .ptr 4 0)], [(1001, some (.cells [.clo 69 [.ptr 1000 0, .ptr 1001 0]] 89)), (4, some (.cells ((dTm t).map V.d) 28)), (1000, some (.cells [.clo 43 [.ptr 1002 0]] 69)), (1002, some (.cells [.map 1003] 67)), (1003, some (.map ⟨1, dMap kI vB x5⟩))], [1001, 4, 1000, 1002, 1003]⟩) (fun x8 => tree_Each_1_8ac_k2 self t x5 x8) r ?_ (fun x8 h => ?_)
   ·refine rg pg ?_
    refine cd h rfl (fun h hb6 => ?_) (fun h hb6 => ?_)
    ·refine rl pg ?_
     exact jt (w64 (below + 1)) h rfl rfl rfl
    ·refine sk ?_
     exact jt below h rfl rfl rfl
   ·refine rg pg ?_
    refine LenW.mk (dTms_len _) ?_
    refine rangeK (X := (List (Int × Bool))) pg t.args _ rfl (fun x13 => [(1, .d (.int .i64 x8)), (3, .ptr 1001 0), (22, .d (.slice (dTms t.args)))]) (fun x13 => [(1001, some (.cells [.clo 69 [.ptr 1000 0, .ptr 1001 0]] 89)), (1000, some (.cells [.clo 43 [.ptr 1002 0]] 69)), (1002, some (.cells [.map 1003] 67)), (1003, some (.map ⟨1, dMap kI vB x13⟩))]) [1001, 1000, 1002, 1003] h rfl rfl rfl rfl (fun _ => ⟨rfl, rfl⟩) 22 rfl (dTms_len _) (fun k10 i11 a9 x13 _ g12 h => ?_) (fun x13 h => ?_)
    ·refine rg pg ?_
     refine IdxW.mk (Int.natCast_nonneg _) (dTms_get g12) rfl ?_
     refine rl pg ?_
     obtain ⟨r21, h22, h⟩ := bndB h
     refine callW [(1000, 1000), (1001, 1001), (1002, 1002), (1003, 1003)] (hs h22) rfl rfl rfl rfl rfl ?_
     exact jt r21 h rfl rfl rfl
    ·obtain rfl := Option.some.inj h
     exact enN rfl rfl
end Go.AM

/-
  The Go functions reckon what the printed ones do.
-/
import Derived.Test.YtgilcibfknafiaaGreatDoorQG0P1
set_option linter.unusedVariables false
set_option linter.unusedSimpArgs false
set_option maxRecDepth 20000
set_option maxHeartbeats 40000000
namespace Go.AM
open Go Go.RowKit Go.Proofs
theorem make_Deck_Next_eb1_ev {n : Int} {o0 : S_make_Deck} {r : Int × Int} (h : make_Deck_Next_eb1 n o0 = some r) : Ev Tryz.prog GL 43 [.ptr 1000 0, .d (.int .i64 n)] [(1000, .cells ((cS_make_Deck o0).map V.d) 94)] (.d (.int .i64 r.1)) [(1000, .cells [.d (.slice (dInts o0.L)), .d (.int .i64 r.2)] 94)] := by
  refine evb pg Tryz.func43 rfl (by kernel_rfl) 40 [.tmp 4] rfl rfl rfl (fun E ι0 => ?_)
  refine rg pg ?_
  refine sq ?_
  refine rgd pg ?_
  refine gwF h (fun h hb1 => ?_) (fun h hb1 => ?_)
  ·refine gf rfl ?_
   refine gf rfl ?_
   refine gf rfl ?_
   refine gf rfl ?_
   refine gf rfl ?_
   refine gf rfl ?_
   refine gf rfl ?_
   refine gf rfl ?_
   refine gf rfl ?_
   refine Ask.mk (by kernel_rfl) ?_
   refine cdT rfl ?_
   refine rg pg ?_
   refine rt ?_
   obtain rfl := Option.some.inj h
   exact en rfl rfl
  ·refine gl rfl ?_
   refine gl rfl ?_
   refine gl rfl ?_
   refine gl rfl ?_
   refine gl rfl ?_
   refine gl rfl ?_
   refine gl rfl ?_
   refine gl rfl ?_
   refine LenW.mk (dInts_len _) ?_
   refine gl rfl ?_
   refine Ask.mk (by kernel_rfl) ?_
   refine cd h rfl (fun h hb2 => ?_) (fun h hb2 => ?_)
   ·refine rg pg ?_
    refine rt ?_
    obtain rfl := Option.some.inj h
    exact en rfl rfl
   ·refine sk ?_
    refine rgd pg ?_
    obtain ⟨a3, p4, g5, h⟩ := idxB h
    refine IdxW.mk p4 (dInts_get g5) rfl ?_
    refine Ask.mk (by kernel_rfl) ?_
    refine rg pg ?_
    refine rg pg ?_
    obtain ⟨r6, h7, h⟩ := bndB h
    refine callW0 (make_Mod_ev h7) rfl ?_
    refine rt ?_
    obtain rfl := Option.some.inj h
    exact en rfl rfl
theorem ref01_Nat_ev {_u : Unit} {r : Typ} (h : ref01_Nat _u = some r) : Ev Tryz.prog GL 82 [] [] (.agg ((dTy r).map V.d)) [] := by
  refine evb pg Tryz.func82 rfl (by kernel_rfl) 2 [.cell 0 34] rfl rfl rfl (fun E ι0 => ?_)
  refine rg pg ?_
  refine rg pg ?_
  refine rt ?_
  obtain rfl := Option.some.inj h
  exact en rfl rfl
theorem ref01_List_ev {_u : Unit} {r : Typ} (h : ref01_List _u = some r) : Ev Tryz.prog GL 97 [] [] (.agg ((dTy r).map V.d)) [] := by
  refine evb pg Tryz.func97 rfl (by kernel_rfl) 2 [.cell 0 34] rfl rfl rfl (fun E ι0 => ?_)
  refine rg pg ?_
  refine rg pg ?_
  refine rt ?_
  obtain rfl := Option.some.inj h
  exact en rfl rfl
theorem ref01_Unit_ev {_u : Unit} {r : Typ} (h : ref01_Unit _u = some r) : Ev Tryz.prog GL 131 [] [] (.agg ((dTy r).map V.d)) [] := by
  refine evb pg Tryz.func131 rfl (by kernel_rfl) 2 [.cell 0 34] rfl rfl rfl (fun E ι0 => ?_)
  refine rg pg ?_
  refine rg pg ?_
  refine rt ?_
  obtain rfl := Option.some.inj h
  exact en rfl rfl
theorem ref01_Two_ev {a : Typ} {b : Typ} {r : Typ} (h : ref01_Two a b = some r) : Ev Tryz.prog GL 132 [.agg ((dTy a).map V.d), .agg ((dTy b).map V.d)] [] (.agg ((dTy r).map V.d)) [] := by
  refine evb pg Tryz.func132 rfl (by kernel_rfl) 11 [.cell 4 34] rfl rfl rfl (fun E ι0 => ?_)
  refine rg pg ?_
  refine rgd pg ?_
  obtain ⟨r1, h2, h⟩ := bndB h
  refine callW0 (ref01_Copy_ev h2) rfl ?_
  obtain ⟨r3, h4, h⟩ := bndB h
  refine callW0 (ref01_Copy_ev h4) rfl ?_
  refine Ask.mk ⟨rfl, rfl⟩ (BsW.mk (dTys_map [r1, r3]).symm (dTys_sz _) ?_)
  refine Ask.mk (by kernel_rfl) ?_
  refine rt ?_
  obtain rfl := Option.some.inj h
  exact en rfl rfl
theorem ref01_Fun_ev {a : Typ} {b : Typ} {r : Typ} (h : ref01_Fun a b = some r) : Ev Tryz.prog GL 133 [.agg ((dTy a).map V.d), .agg ((dTy b).map V.d)] [] (.agg ((dTy r).map V.d)) [] := by
  refine evb pg Tryz.func133 rfl (by kernel_rfl) 11 [.cell 4 34] rfl rfl rfl (fun E ι0 => ?_)
  refine rg pg ?_
  refine rgd pg ?_
  obtain ⟨r1, h2, h⟩ := bndB h
  refine callW0 (ref01_Copy_ev h2) rfl ?_
  obtain ⟨r3, h4, h⟩ := bndB h
  refine callW0 (ref01_Copy_ev h4) rfl ?_
  refine Ask.mk ⟨rfl, rfl⟩ (BsW.mk (dTys_map [r1, r3]).symm (dTys_sz _) ?_)
  refine Ask.mk (by kernel_rfl) ?_
  refine rt ?_
  obtain rfl := Option.some.inj h
  exact en rfl rfl
theorem make_Type_eb1_be (self : Int → S_make_Deck → Option (Typ × Int)) (hs : ∀ {depth : Int} {o0 : S_make_Deck} {r : Typ × Int}, self depth o0 = some r → Ev Tryz.prog GL 25 [.ptr 1000 0, .d (.int .i64 depth)] [(1000, .cells ((cS_make_Deck o0).map V.d) 94)] (.agg ((dTy r.1).map V.d)) [(1000, .cells [.d (.slice (dInts o0.L)), .d (.int .i64 r.2)] 94)]) {depth : Int} {o0 : S_make_Deck} {r : Typ × Int} (h : make_Type_eb1_b self depth o0 = some r) : Ev Tryz.prog GL 25 [.ptr 1000 0, .d (.int .i64 depth)] [(1000, .cells ((cS_make_Deck o0).map V.d) 94)] (.agg ((dTy r.1).map V.d)) [(1000, .cells [.d (.slice (dInts o0.L)), .d (.int .i64 r.2)] 94)] := by
  refine evb pg Tryz.func25 rfl (by kernel_rfl) 45 [.cell 4 34] rfl rfl rfl (fun E ι0 => ?_)
  refine rg pg ?_
  refine sq ?_
  refine rg pg ?_
  obtain ⟨r1, h2, h⟩ := bndB h
  refine callW [(1000, 1000)] (make_Deck_Next_eb1_ev h2) rfl rfl rfl rfl rfl ?_
  refine bk ?_
  refine join (fun x6 : Bool => ⟨[(0, .ptr 1000 0), (1, .d (.int .i64 depth)), (4, .ptr 4 0), (6, .d (.int .i64 r1.1)), (7, .d (.bool x6))], [(1000, some (.cells [.d (.slice (dInts o0.L)), .d (.int .i64 r1.2)] 94)), (4, some (.cells [.d (.int .i64 0), .d .nils] 34))], [1000, 4]⟩) (fun x6 => make_Type_eb1_k1 self depth o0 r1 x6) r ?_ (fun x6 h => ?_)
  ·refine rg pg ?_
   refine cd h rfl (fun h hb3 => ?_) (fun h hb3 => ?_)
   ·refine sk ?_
    exact jt true h rfl rfl rfl
   ·refine rg pg ?_
    refine cd h rfl (fun h hb4 => ?_) (fun h hb4 => ?_)
    ·refine sk ?_
     exact jt true h rfl rfl rfl
    ·refine rl pg ?_
     exact jt (r1.1 == 2) h rfl rfl rfl
  ·refine cd h rfl (fun h hb7 => ?_) (fun h hb7 => ?_)
   ·refine rg pg ?_
    obtain ⟨r8, h9, h⟩ := bndB h
    refine callW0 (ref01_Nat_ev h9) rfl ?_
    refine rt ?_
    obtain rfl := Option.some.inj h
    exact en rfl rfl
   ·refine rg pg ?_
    refine cd h rfl (fun h hb10 => ?_) (fun h hb10 => ?_)
    ·refine rg pg ?_
     obtain ⟨r11, h12, h⟩ := bndB h
     refine callW0 (ref01_List_ev h12) rfl ?_
     refine rt ?_
     obtain rfl := Option.some.inj h
     exact en rfl rfl
    ·refine rg pg ?_
     refine cd h rfl (fun h hb13 => ?_) (fun h hb13 => ?_)
     ·refine rg pg ?_
      obtain ⟨r14, h15, h⟩ := bndB h
      refine callW0 (ref01_Unit_ev h15) rfl ?_
      refine rt ?_
      obtain rfl := Option.some.inj h
      exact en rfl rfl
     ·refine rg pg ?_
      refine cd h rfl (fun h hb16 => ?_) (fun h hb16 => ?_)
      ·refine rg pg ?_
       refine cd h rfl (fun h hb17 => ?_) (fun h hb17 => ?_)
       ·refine rg pg ?_
        obtain ⟨r18, h19, h⟩ := bndB h
        refine callW [(1000, 1000)] (hs h19) rfl rfl rfl rfl rfl ?_
        obtain ⟨r20, h21, h⟩ := bndB h
        refine callW [(1000, 1000)] (hs h21) rfl rfl rfl rfl rfl ?_
        obtain ⟨r22, h23, h⟩ := bndB h
        refine callW0 (ref01_Two_ev h23) rfl ?_
        refine rt ?_
        obtain rfl := Option.some.inj h
        exact en rfl rfl
       ·refine sk ?_
        refine rg pg ?_
        obtain ⟨r32, h33, h⟩ := bndB h
        refine callW0 (ref01_Nat_ev h33) rfl ?_
        refine rt ?_
        obtain rfl := Option.some.inj h
        exact en rfl rfl
      ·refine rg pg ?_
       refine cd h rfl (fun h hb24 => ?_) (fun h hb24 => ?_)
       ·refine rg pg ?_
        refine cd h rfl (fun h hb25 => ?_) (fun h hb25 => ?_)
        ·refine rg pg ?_
         obtain ⟨r26, h27, h⟩ := bndB h
         refine callW [(1000, 1000)] (hs h27) rfl rfl rfl rfl rfl ?_
         obtain ⟨r28, h29, h⟩ := bndB h
         refine callW [(1000, 1000)] (hs h29) rfl rfl rfl rfl rfl ?_
         obtain ⟨r30, h31, h⟩ := bndB h
         refine callW0 (ref01_Fun_ev h31) rfl ?_
         refine rt ?_
         obtain rfl := Option.some.inj h
         exact en rfl rfl
        ·refine sk ?_
         refine rg pg ?_
         obtain ⟨r34, h35, h⟩ := bndB h
         refine callW0 (ref01_Nat_ev h35) rfl ?_
         refine rt ?_
         obtain rfl := Option.some.inj h
         exact en rfl rfl
       ·refine sk ?_
        refine rg pg ?_
        obtain ⟨r36, h37, h⟩ := bndB h
        refine callW0 (ref01_Nat_ev h37) rfl ?_
        refine rt ?_
        obtain rfl := Option.some.inj h
        exact en rfl rfl
theorem make_Type_eb1_me : ∀ (m : Nat) {depth : Int} {o0 : S_make_Deck} {r : Typ × Int}, make_Type_eb1_m m depth o0 = some r → Ev Tryz.prog GL 25 [.ptr 1000 0, .d (.int .i64 depth)] [(1000, .cells ((cS_make_Deck o0).map V.d) 94)] (.agg ((dTy r.1).map V.d)) [(1000, .cells [.d (.slice (dInts o0.L)), .d (.int .i64 r.2)] 94)]
  | 0, _, _, _, h => nomatch (show none = some _ from h)
  | m + 1, _, _, _, h => make_Type_eb1_be (make_Type_eb1_m m) (fun h => make_Type_eb1_me m h) h
theorem make_Type_eb1_ev {depth : Int} {o0 : S_make_Deck} {r : Typ × Int} (h : make_Type_eb1 depth o0 = some r) : Ev Tryz.prog GL 25 [.ptr 1000 0, .d (.int .i64 depth)] [(1000, .cells ((cS_make_Deck o0).map V.d) 94)] (.agg ((dTy r.1).map V.d)) [(1000, .cells [.d (.slice (dInts o0.L)), .d (.int .i64 r.2)] 94)] := make_Type_eb1_me FU h
theorem make_Context_6f7_ev {o0 : S_make_Deck} {r : List Typ × Int} (h : make_Context_6f7 o0 = some r) : Ev Tryz.prog GL 38 [.ptr 1000 0] [(1000, .cells ((cS_make_Deck o0).map V.d) 94)] (.d (.slice (dTys r.1))) [(1000, .cells [.d (.slice (dInts o0.L)), .d (.int .i64 r.2)] 94)] := by
  refine evb pg Tryz.func38 rfl (by kernel_rfl) 17 [.tmp 2] rfl rfl rfl (fun E ι0 => ?_)
  refine rg pg ?_
  refine rg pg ?_
  refine sq ?_
  refine rg pg ?_
  obtain ⟨r1, h2, h⟩ := bndB h
  refine callW [(1000, 1000)] (make_Deck_Next_eb1_ev h2) rfl rfl rfl rfl rfl ?_
  refine bk ?_
  refine wrN 201 3 2 34 rfl rfl ?_
  refine loopK (X := List Typ × Int × Int) (fun x4 => ⟨[(0, .ptr 1000 0), (3, .own (dTys x4.1) 201), (4, .d (.int .i64 x4.2.1))], [(1000, some (.cells [.d (.slice (dInts o0.L)), .d (.int .i64 x4.2.2)] 94)), (201, some (.row (dTys x4.1).length 2 34))], [1000, 201]⟩) h rfl rfl rfl (fun k3 x4 h => ?_)
  refine sq ?_
  refine rg pg ?_
  refine cd h rfl (fun h hb26 => ?_) (fun h hb26 => ?_)
  ·refine sk ?_
   refine sq ?_
   refine bk ?_
   refine rl pg ?_
   obtain ⟨r27, h28, h⟩ := bndB h
   refine callW [(1000, 1000)] (make_Type_eb1_ev h28) rfl rfl rfl rfl rfl ?_
   refine Ask.mk ⟨rfl, rfl⟩ (BsW.mk (dTys_map [r27.1]).symm (dTys_sz _) ?_)
   obtain ⟨p29, h⟩ := gdB h
   refine Ask.mk ⟨rfl, rfl, rfl⟩ (AppW.mk (dTys_app _ _) (dTys_sz _) (dTys_sz _) (by rw [dTys_len, dTys_len]; exact p29) ?_)
   refine rl pg ?_
   exact jt ((x4.1 ++ [r27.1]), (w64 (x4.2.1 - 1)), r27.2) h rfl rfl rfl
  ·refine ex ?_
   refine rg pg ?_
   refine rt ?_
   obtain rfl := Option.some.inj h
   exact en rfl rfl
theorem ref07_Copy_be (self : Frm → Option (Frm)) (hs : ∀ {f : Frm} {r : Frm}, self f = some r → Ev Tryz.prog GL 105 [.agg ((dFm f).map V.d)] [] (.agg ((dFm r).map V.d)) []) {f : Frm} {r : Frm} (h : ref07_Copy_b self f = some r) : Ev Tryz.prog GL 105 [.agg ((dFm f).map V.d)] [] (.agg ((dFm r).map V.d)) [] := by
  refine evb pg Tryz.func105 rfl (by kernel_rfl) 45 [.cell 2 45] rfl rfl rfl (fun E ι0 => ?_)
  refine rg pg ?_
  refine rgd pg ?_
  obtain ⟨r1, h2, h⟩ := bndB h
  refine callW0 (ref01_Copy_ev h2) rfl ?_
  refine Ask.mk (by kernel_rfl) ?_
  refine sq ?_
  refine rg pg ?_
  refine LenW.mk (dTms_len _) ?_
  refine wrcN 201 3 3 5 52 rfl rfl rfl ?_
  refine rangeK (X := List Trm) pg f.terms _ rfl (fun x7 => [(1, .ptr 1 0), (2, .ptr 2 0), (3, .ptr 3 0), (15, .d (.slice (dTms f.terms)))]) (fun x7 => [(1, some (.cells ((dFm f).map V.d) 45)), (2, some (.cells [.d (.int .i64 0), .d (.int .i64 0), .d .nils, .d .nils, .d .nils] 45)), (3, some (.cells [.d (.int .i64 f.kind), .d (.int .i64 r1.kind), .d (.slice (dTys r1.args)), .own (dTms x7) 201, .d .nils] 45)), (201, some (.row (dTms x7).length 5 52))]) [1, 2, 3, 201] h rfl rfl rfl rfl (fun _ => ⟨rfl, rfl⟩) 15 rfl (dTms_len _) (fun k4 i5 a3 x7 _ g6 h => ?_) (fun x7 h => ?_)
  ·refine rg pg ?_
   refine IdxW.mk (Int.natCast_nonneg _) (dTms_get g6) rfl ?_
   refine rld pg ?_
   obtain ⟨r20, h21, h⟩ := bndB h
   refine callW0 (ref02_Copy_ev h21) rfl ?_
   refine Ask.mk ⟨rfl, rfl⟩ (BsW.mk (dTms_map [r20]).symm (dTms_sz _) ?_)
   obtain ⟨p22, h⟩ := gdB h
   refine Ask.mk ⟨rfl, rfl, rfl⟩ (AppW.mk (dTms_app _ _) (dTms_sz _) (dTms_sz _) (by rw [dTms_len, dTms_len]; exact p22) ?_)
   refine Ask.mk (by kernel_rfl) ?_
   exact jt (x7 ++ [r20]) h rfl rfl rfl
  ·refine sq ?_
   refine rg pg ?_
   refine LenW.mk (dFms_len _) ?_
   refine wrcN 202 3 4 5 45 rfl rfl rfl ?_
   refine rangeK (X := List Frm) pg f.args _ rfl (fun x29 => [(2, .ptr 2 0), (3, .ptr 3 0), (30, .d (.slice (dFms f.args)))]) (fun x29 => [(2, some (.cells [.d (.int .i64 0), .d (.int .i64 0), .d .nils, .d .nils, .d .nils] 45)), (3, some (.cells [.d (.int .i64 f.kind), .d (.int .i64 r1.kind), .d (.slice (dTys r1.args)), .own (dTms x7) 201, .own (dFms x29) 202] 45)), (201, some (.row (dTms x7).length 5 52)), (202, some (.row (dFms x29).length 5 45))]) [2, 3, 201, 202] h rfl rfl rfl rfl (fun _ => ⟨rfl, rfl⟩) 30 rfl (dFms_len _) (fun k26 i27 a25 x29 _ g28 h => ?_) (fun x29 h => ?_)
   ·refine rg pg ?_
    refine IdxW.mk (Int.natCast_nonneg _) (dFms_get g28) rfl ?_
    refine rld pg ?_
    obtain ⟨r42, h43, h⟩ := bndB h
    refine callW0 (hs h43) rfl ?_
    refine Ask.mk ⟨rfl, rfl⟩ (BsW.mk (dFms_map [r42]).symm (dFms_sz _) ?_)
    obtain ⟨p44, h⟩ := gdB h
    refine Ask.mk ⟨rfl, rfl, rfl⟩ (AppW.mk (dFms_app _ _) (dFms_sz _) (dFms_sz _) (by rw [dFms_len, dFms_len]; exact p44) ?_)
    refine Ask.mk (by kernel_rfl) ?_
    exact jt (x29 ++ [r42]) h rfl rfl rfl
   ·refine rg pg ?_
    refine rt ?_
    obtain rfl := Option.some.inj h
    exact en rfl rfl
theorem ref07_Copy_me : ∀ (m : Nat) {f : Frm} {r : Frm}, ref07_Copy_m m f = some r → Ev Tryz.prog GL 105 [.agg ((dFm f).map V.d)] [] (.agg ((dFm r).map V.d)) []
  | 0, _, _, h => nomatch (show none = some _ from h)
  | m + 1, _, _, h => ref07_Copy_be (ref07_Copy_m m) (fun h => ref07_Copy_me m h) h
theorem ref07_Copy_ev {f : Frm} {r : Frm} (h : ref07_Copy f = some r) : Ev Tryz.prog GL 105 [.agg ((dFm f).map V.d)] [] (.agg ((dFm r).map V.d)) [] := ref07_Copy_me FU h
theorem ref07_Two_ev {kind : Int} {a : Frm} {b : Frm} {r : Frm} (h : ref07_Two kind a b = some r) : Ev Tryz.prog GL 151 [.d (.int .i64 kind), .agg ((dFm a).map V.d), .agg ((dFm b).map V.d)] [] (.agg ((dFm r).map V.d)) [] := by
  refine evb pg Tryz.func151 rfl (by kernel_rfl) 14 [.cell 6 45] rfl rfl rfl (fun E ι0 => ?_)
  refine rg pg ?_
  refine rgd pg ?_
  obtain ⟨r1, h2, h⟩ := bndB h
  refine callW0 (ref07_Copy_ev h2) rfl ?_
  obtain ⟨r3, h4, h⟩ := bndB h
  refine callW0 (ref07_Copy_ev h4) rfl ?_
  refine Ask.mk ⟨rfl, rfl⟩ (BsW.mk (dFms_map [r1, r3]).symm (dFms_sz _) ?_)
  refine Ask.mk (by kernel_rfl) ?_
  refine rt ?_
  obtain rfl := Option.some.inj h
  exact en rfl rfl
theorem make_longer_ev {g : List Typ} {l : List Typ} {r : List Typ} (h : make_longer g l = some r) : Ev Tryz.prog GL 125 [.d (.slice (dTys g)), .d (.slice (dTys l))] [] (.d (.slice (dTys r))) [] := by
  refine evb pg Tryz.func125 rfl (by kernel_rfl) 9 [.tmp 4] rfl rfl rfl (fun E ι0 => ?_)
  refine rg pg ?_
  refine rg pg ?_
  obtain ⟨p1, h⟩ := gdB h
  refine AppW.mk (List.nil_append _) (fun _ h => by cases h) (dTys_sz _) (by rw [dTys_len, List.length_nil, Nat.zero_add]; exact p1) ?_
  obtain ⟨p2, h⟩ := gdB h
  refine Ask.mk ⟨rfl, rfl, rfl⟩ (AppW.mk (dTys_app _ _) (dTys_sz _) (dTys_sz _) (by rw [dTys_len, dTys_len]; exact p2) ?_)
  refine rt ?_
  obtain rfl := Option.some.inj h
  exact en rfl rfl
theorem ref07_Q_ev {kind : Int} {s : Typ} {f : Frm} {r : Frm} (h : ref07_Q kind s f = some r) : Ev Tryz.prog GL 88 [.d (.int .i64 kind), .agg ((dTy s).map V.d), .agg ((dFm f).map V.d)] [] (.agg ((dFm r).map V.d)) [] := by
  refine evb pg Tryz.func88 rfl (by kernel_rfl) 14 [.cell 6 45] rfl rfl rfl (fun E ι0 => ?_)
  refine rg pg ?_
  refine rgd pg ?_
  obtain ⟨r1, h2, h⟩ := bndB h
  refine callW0 (ref01_Copy_ev h2) rfl ?_
  obtain ⟨r3, h4, h⟩ := bndB h
  refine callW0 (ref07_Copy_ev h4) rfl ?_
  refine Ask.mk ⟨rfl, rfl⟩ (BsW.mk (dFms_map [r3]).symm (dFms_sz _) ?_)
  refine Ask.mk (by kernel_rfl) ?_
  refine rt ?_
  obtain rfl := Option.some.inj h
  exact en rfl rfl
theorem make_vars_ev {g : List Typ} {t : Typ} {r : List Int} (h : make_vars g t = some r) : Ev Tryz.prog GL 123 [.d (.slice (dTys g)), .agg ((dTy t).map V.d)] [] (.d (.slice (dInts r))) [] := by
  refine evb pg Tryz.func123 rfl (by kernel_rfl) 28 [.tmp 4] rfl rfl rfl (fun E ι0 => ?_)
  refine rg pg ?_
  refine rg pg ?_
  refine sq ?_
  refine rg pg ?_
  refine LenW.mk (dTys_len _) ?_
  refine wrN 201 5 1 3 rfl rfl ?_
  refine rangeK (X := List Int) pg g _ rfl (fun x5 => [(0, .d (.slice (dTys g))), (3, .ptr 3 0), (5, .own (dInts x5) 201)]) (fun x5 => [(3, some (.cells ((dTy t).map V.d) 34)), (201, some (.row (dInts x5).length 1 3))]) [3, 201] h rfl rfl rfl rfl (fun _ => ⟨rfl, rfl⟩) 0 rfl (dTys_len _) (fun k2 i3 a1 x5 _ g4 h => ?_) (fun x5 h => ?_)
  ·refine rg pg ?_
   refine rgd pg ?_
   refine LenW.mk (dTys_len _) ?_
   obtain ⟨a30, p31, g32, h⟩ := idxB h
   refine IdxW.mk p31 (dTys_get g32) rfl ?_
   obtain ⟨r33, h34, h⟩ := bndB h
   refine callW0 (ref01_Same_ev h34) rfl ?_
   refine Ask.mk (by kernel_rfl) ?_
   refine cd h rfl (fun h hb35 => ?_) (fun h hb35 => ?_)
   ·refine rl pg ?_
    refine Ask.mk ⟨rfl, rfl⟩ (BsW.mk (dInts_map [(i3 : Int)]).symm (dInts_sz _) ?_)
    obtain ⟨p36, h⟩ := gdB h
    refine Ask.mk ⟨rfl, rfl, rfl⟩ (AppW.mk (dInts_app _ _) (dInts_sz _) (dInts_sz _) (by rw [dInts_len, dInts_len]; exact p36) ?_)
    exact jt (x5 ++ [(i3 : Int)]) h rfl rfl rfl
   ·refine sk ?_
    exact jt x5 h rfl rfl rfl
  ·refine rg pg ?_
   refine rt ?_
   obtain rfl := Option.some.inj h
   exact en rfl rfl
theorem ref02_T_ev {kind : Int} {s : Typ} {l : List Trm} {r : Trm} (h : ref02_T kind s l = some r) : Ev Tryz.prog GL 124 [.d (.int .i64 kind), .agg ((dTy s).map V.d), .d (.slice (dTms l))] [] (.agg ((dTm r).map V.d)) [] := by
  refine evb pg Tryz.func124 rfl (by kernel_rfl) 15 [.cell 6 52] rfl rfl rfl (fun E ι0 => ?_)
  refine rg pg ?_
  refine rg pg ?_
  obtain ⟨r1, h2, h⟩ := bndB h
  refine callW0 (ref02_N_ev h2) rfl ?_
  refine rg pg ?_
  obtain ⟨r3, h4, h⟩ := bndB h
  refine callW0 (ref01_Copy_ev h4) rfl ?_
  refine rg pg ?_
  refine rt ?_
  obtain rfl := Option.some.inj h
  exact en rfl rfl
theorem ref05_numeral_ev {n : Int} {r : Trm} (h : ref05_numeral n = some r) : Ev Tryz.prog GL 292 [.d (.int .i64 n)] [] (.agg ((dTm r).map V.d)) [] := by
  refine evb pg Tryz.func292 rfl (by kernel_rfl) 13 [.cell 2 52] rfl rfl rfl (fun E ι0 => ?_)
  refine rg pg ?_
  refine rg pg ?_
  obtain ⟨r1, h2, h⟩ := bndB h
  refine callW0 (ref02_N_ev h2) rfl ?_
  refine sq ?_
  refine bk ?_
  refine loopK (X := Int × Trm) (fun x4 => ⟨[(0, .d (.int .i64 x4.1)), (2, .ptr 2 0), (3, .ptr 3 0)], [(2, some (.cells [.d (.int .i64 0), .d (.int .i64 0), .d (.int .i64 0), .d .nils, .d .nils] 52)), (3, some (.cells ((dTm x4.2).map V.d) 52))], [2, 3]⟩) h rfl rfl rfl (fun k3 x4 h => ?_)
  refine sq ?_
  refine rg pg ?_
  refine cd h rfl (fun h hb13 => ?_) (fun h hb13 => ?_)
  ·refine sk ?_
   refine sq ?_
   refine bk ?_
   refine rl pg ?_
   refine Ask.mk ⟨rfl, rfl⟩ (BsW.mk (dTms_map [x4.2]).symm (dTms_sz _) ?_)
   refine rl pg ?_
   exact jt ((w64 (x4.1 - 1)), (Trm.mk 5 0 (Typ.mk 0 ([] : List Typ)) [x4.2])) h rfl rfl rfl
  ·refine ex ?_
   refine rg pg ?_
   refine rt ?_
   obtain rfl := Option.some.inj h
   exact en rfl rfl
theorem ref05_Number_ev {n : Int} {r : Trm × Int} (h : ref05_Number n = some r) : Ev Tryz.prog GL 232 [.d (.int .i64 n)] [] (.tup [.agg ((dTm r.1).map V.d), .d (.int .i64 r.2)]) [] := by
  refine evb pg Tryz.func232 rfl (by kernel_rfl) 12 [.cell 2 52, .tmp 3] rfl rfl rfl (fun E ι0 => ?_)
  refine rg pg ?_
  refine sq ?_
  refine rg pg ?_
  refine cd h rfl (fun h hb1 => ?_) (fun h hb1 => ?_)
  ·refine rg pg ?_
   refine rt ?_
   obtain rfl := Option.some.inj h
   exact en rfl rfl
  ·refine sk ?_
   refine sq ?_
   refine rg pg ?_
   refine cd h rfl (fun h hb2 => ?_) (fun h hb2 => ?_)
   ·refine rg pg ?_
    refine rt ?_
    obtain rfl := Option.some.inj h
    exact en rfl rfl
   ·refine sk ?_
    refine rg pg ?_
    obtain ⟨r3, h4, h⟩ := bndB h
    refine callW0 (ref05_numeral_ev h4) rfl ?_
    refine rt ?_
    obtain rfl := Option.some.inj h
    exact en rfl rfl
theorem make_Num_ev {n : Int} {r : Trm} (h : make_Num n = some r) : Ev Tryz.prog GL 126 [.d (.int .i64 n)] [] (.agg ((dTm r).map V.d)) [] := by
  refine evb pg Tryz.func126 rfl (by kernel_rfl) 11 [.cell 2 52] rfl rfl rfl (fun E ι0 => ?_)
  refine rg pg ?_
  refine rg pg ?_
  obtain ⟨r1, h2, h⟩ := bndB h
  refine callW0 (ref05_Number_ev h2) rfl ?_
  refine rg pg ?_
  refine rt ?_
  obtain rfl := Option.some.inj h
  exact en rfl rfl
theorem ref05_lam_ev {t : Trm} {r : Trm} (h : ref05_lam t = some r) : Ev Tryz.prog GL 233 [.agg ((dTm t).map V.d)] [] (.agg ((dTm r).map V.d)) [] := by
  refine evb pg Tryz.func233 rfl (by kernel_rfl) 7 [.cell 2 52] rfl rfl rfl (fun E ι0 => ?_)
  refine rg pg ?_
  refine rgd pg ?_
  obtain ⟨r1, h2, h⟩ := bndB h
  refine callW0 (ref01_Nat_ev h2) rfl ?_
  refine Ask.mk ⟨rfl, rfl⟩ (BsW.mk (dTms_map [t]).symm (dTms_sz _) ?_)
  obtain ⟨r3, h4, h⟩ := bndB h
  refine callW0 (ref02_T_ev h4) rfl ?_
  refine Ask.mk (by kernel_rfl) ?_
  refine rt ?_
  obtain rfl := Option.some.inj h
  exact en rfl rfl
theorem ref05_rec_ev {b : Trm} {f : Trm} {n : Trm} {r : Trm} (h : ref05_rec b f n = some r) : Ev Tryz.prog GL 234 [.agg ((dTm b).map V.d), .agg ((dTm f).map V.d), .agg ((dTm n).map V.d)] [] (.agg ((dTm r).map V.d)) [] := by
  refine evb pg Tryz.func234 rfl (by kernel_rfl) 13 [.cell 6 52] rfl rfl rfl (fun E ι0 => ?_)
  refine rg pg ?_
  refine rgd pg ?_
  obtain ⟨r1, h2, h⟩ := bndB h
  refine callW0 (ref01_Nat_ev h2) rfl ?_
  refine Ask.mk ⟨rfl, rfl⟩ (BsW.mk (dTms_map [b, f, n]).symm (dTms_sz _) ?_)
  obtain ⟨r3, h4, h⟩ := bndB h
  refine callW0 (ref02_T_ev h4) rfl ?_
  refine Ask.mk (by kernel_rfl) ?_
  refine rt ?_
  obtain rfl := Option.some.inj h
  exact en rfl rfl
theorem ref05_Plus_ev {_u : Unit} {r : Trm} (h : ref05_Plus _u = some r) : Ev Tryz.prog GL 129 [] [] (.agg ((dTm r).map V.d)) [] := by
  refine evb pg Tryz.func129 rfl (by kernel_rfl) 11 [.cell 0 52] rfl rfl rfl (fun E ι0 => ?_)
  refine rg pg ?_
  refine rg pg ?_
  obtain ⟨r1, h2, h⟩ := bndB h
  refine callW0 (ref02_Var_ev h2) rfl ?_
  obtain ⟨r3, h4, h⟩ := bndB h
  refine callW0 (ref02_Var_ev h4) rfl ?_
  refine Ask.mk ⟨rfl, rfl⟩ (BsW.mk (dTms_map [r3]).symm (dTms_sz _) ?_)
  obtain ⟨r5, h6, h⟩ := bndB h
  refine callW0 (ref02_N_ev h6) rfl ?_
  obtain ⟨r7, h8, h⟩ := bndB h
  refine callW0 (ref05_lam_ev h8) rfl ?_
  obtain ⟨r9, h10, h⟩ := bndB h
  refine callW0 (ref05_lam_ev h10) rfl ?_
  obtain ⟨r11, h12, h⟩ := bndB h
  refine callW0 (ref02_Var_ev h12) rfl ?_
  obtain ⟨r13, h14, h⟩ := bndB h
  refine callW0 (ref05_rec_ev h14) rfl ?_
  obtain ⟨r15, h16, h⟩ := bndB h
  refine callW0 (ref05_lam_ev h16) rfl ?_
  obtain ⟨r17, h18, h⟩ := bndB h
  refine callW0 (ref05_lam_ev h18) rfl ?_
  refine rt ?_
  obtain rfl := Option.some.inj h
  exact en rfl rfl
theorem make_App_ev {f : Trm} {l : List Trm} {r : Trm} (h : make_App f l = some r) : Ev Tryz.prog GL 128 [.agg ((dTm f).map V.d), .d (.slice (dTms l))] [] (.agg ((dTm r).map V.d)) [] := by
  refine evb pg Tryz.func128 rfl (by kernel_rfl) 19 [.cell 4 52] rfl rfl rfl (fun E ι0 => ?_)
  refine rg pg ?_
  refine sq ?_
  refine rg pg ?_
  refine LenW.mk (dTms_len _) ?_
  refine rangeK (X := Trm) pg l _ rfl (fun x5 => [(2, .ptr 2 0), (4, .ptr 4 0), (7, .d (.slice (dTms l)))]) (fun x5 => [(2, some (.cells ((dTm x5).map V.d) 52)), (4, some (.cells [.d (.int .i64 0), .d (.int .i64 0), .d (.int .i64 0), .d .nils, .d .nils] 52))]) [2, 4] h rfl rfl rfl rfl (fun _ => ⟨rfl, rfl⟩) 1 rfl (dTms_len _) (fun k2 i3 a1 x5 _ g4 h => ?_) (fun x5 h => ?_)
  ·refine rg pg ?_
   refine IdxW.mk (Int.natCast_nonneg _) (dTms_get g4) rfl ?_
   refine rl pg ?_
   refine Ask.mk ⟨rfl, rfl⟩ (BsW.mk (dTms_map [x5, a1]).symm (dTms_sz _) ?_)
   obtain ⟨r13, h14, h⟩ := bndB h
   refine callW0 (ref02_N_ev h14) rfl ?_
   exact jt r13 h rfl rfl rfl
  ·refine rg pg ?_
   refine rt ?_
   obtain rfl := Option.some.inj h
   exact en rfl rfl
theorem ref05_Pred_ev {_u : Unit} {r : Trm} (h : ref05_Pred _u = some r) : Ev Tryz.prog GL 235 [] [] (.agg ((dTm r).map V.d)) [] := by
  refine evb pg Tryz.func235 rfl (by kernel_rfl) 8 [.cell 0 52] rfl rfl rfl (fun E ι0 => ?_)
  refine rg pg ?_
  refine rg pg ?_
  obtain ⟨r1, h2, h⟩ := bndB h
  refine callW0 (ref02_N_ev h2) rfl ?_
  obtain ⟨r3, h4, h⟩ := bndB h
  refine callW0 (ref02_Var_ev h4) rfl ?_
  obtain ⟨r5, h6, h⟩ := bndB h
  refine callW0 (ref05_lam_ev h6) rfl ?_
  obtain ⟨r7, h8, h⟩ := bndB h
  refine callW0 (ref05_lam_ev h8) rfl ?_
  obtain ⟨r9, h10, h⟩ := bndB h
  refine callW0 (ref02_Var_ev h10) rfl ?_
  obtain ⟨r11, h12, h⟩ := bndB h
  refine callW0 (ref05_rec_ev h12) rfl ?_
  obtain ⟨r13, h14, h⟩ := bndB h
  refine callW0 (ref05_lam_ev h14) rfl ?_
  refine rt ?_
  obtain rfl := Option.some.inj h
  exact en rfl rfl
theorem ref05_Sub_ev {_u : Unit} {r : Trm} (h : ref05_Sub _u = some r) : Ev Tryz.prog GL 130 [] [] (.agg ((dTm r).map V.d)) [] := by
  refine evb pg Tryz.func130 rfl (by kernel_rfl) 12 [.cell 0 52] rfl rfl rfl (fun E ι0 => ?_)
  refine rg pg ?_
  refine rg pg ?_
  obtain ⟨r1, h2, h⟩ := bndB h
  refine callW0 (ref02_Var_ev h2) rfl ?_
  obtain ⟨r3, h4, h⟩ := bndB h
  refine callW0 (ref05_Pred_ev h4) rfl ?_
  obtain ⟨r5, h6, h⟩ := bndB h
  refine callW0 (ref02_Var_ev h6) rfl ?_
  refine Ask.mk ⟨rfl, rfl⟩ (BsW.mk (dTms_map [r3, r5]).symm (dTms_sz _) ?_)
  obtain ⟨r7, h8, h⟩ := bndB h
  refine callW0 (ref02_N_ev h8) rfl ?_
  obtain ⟨r9, h10, h⟩ := bndB h
  refine callW0 (ref05_lam_ev h10) rfl ?_
  obtain ⟨r11, h12, h⟩ := bndB h
  refine callW0 (ref05_lam_ev h12) rfl ?_
  obtain ⟨r13, h14, h⟩ := bndB h
  refine callW0 (ref02_Var_ev h14) rfl ?_
  obtain ⟨r15, h16, h⟩ := bndB h
  refine callW0 (ref05_rec_ev h16) rfl ?_
  obtain ⟨r17, h18, h⟩ := bndB h
  refine callW0 (ref05_lam_ev h18) rfl ?_
  obtain ⟨r19, h20, h⟩ := bndB h
  refine callW0 (ref05_lam_ev h20) rfl ?_
  refine rt ?_
  obtain rfl := Option.some.inj h
  exact en rfl rfl
theorem make_Term_02b_be (self : (List Typ) → Typ → Int → S_make_Deck → Option (Trm × Int)) (hs : ∀ {g : List Typ} {t : Typ} {depth : Int} {o0 : S_make_Deck} {r : Trm × Int}, self g t depth o0 = some r → Ev Tryz.prog GL 24 [.ptr 1000 0, .d (.slice (dTys g)), .agg ((dTy t).map V.d), .d (.int .i64 depth)] [(1000, .cells ((cS_make_Deck o0).map V.d) 94)] (.agg ((dTm r.1).map V.d)) [(1000, .cells [.d (.slice (dInts o0.L)), .d (.int .i64 r.2)] 94)]) {g : List Typ} {t : Typ} {depth : Int} {o0 : S_make_Deck} {r : Trm × Int} (h : make_Term_02b_b self g t depth o0 = some r) : Ev Tryz.prog GL 24 [.ptr 1000 0, .d (.slice (dTys g)), .agg ((dTy t).map V.d), .d (.int .i64 depth)] [(1000, .cells ((cS_make_Deck o0).map V.d) 94)] (.agg ((dTm r.1).map V.d)) [(1000, .cells [.d (.slice (dInts o0.L)), .d (.int .i64 r.2)] 94)] := by
  refine evb pg Tryz.func24 rfl (by kernel_rfl) 338 [.cell 8 52] rfl rfl rfl (fun E ι0 => ?_)
  refine rg pg ?_
  refine rg pg ?_
  obtain ⟨r1, h2, h⟩ := bndB h
  refine callW0 (make_vars_ev h2) rfl ?_
  refine join (fun x15 : Int => ⟨[(0, .ptr 1000 0), (1, .d (.slice (dTys g))), (3, .d (.int .i64 depth)), (6, .ptr 6 0), (8, .ptr 8 0)], [(1000, some (.cells [.d (.slice (dInts o0.L)), .d (.int .i64 x15)] 94)), (6, some (.cells ((dTy t).map V.d) 34)), (8, some (.cells [.d (.int .i64 0), .d (.int .i64 0), .d (.int .i64 0), .d .nils, .d .nils] 52))], [1000, 6, 8]⟩) (fun x15 => make_Term_02b_k1 self g t depth o0 x15) r ?_ (fun x15 h => ?_)
  ·refine rg pg ?_
   refine LenW.mk (dInts_len _) ?_
   refine gwT h (fun h hb3 => ?_) (fun h hb3 => ?_)
   ·refine gl rfl ?_
    obtain ⟨r4, h5, h⟩ := bndB h
    refine callW [(1000, 1000)] (make_Deck_Next_eb1_ev h5) rfl rfl rfl rfl rfl ?_
    refine gl rfl ?_
    refine cd h rfl (fun h hb6 => ?_) (fun h hb6 => ?_)
    ·refine rg pg ?_
     refine LenW.mk (dInts_len _) ?_
     obtain ⟨r7, h8, h⟩ := bndB h
     refine callW [(1000, 1000)] (make_Deck_Next_eb1_ev h8) rfl rfl rfl rfl rfl ?_
     obtain ⟨a9, p10, g11, h⟩ := idxB h
     refine IdxW.mk p10 (dInts_get g11) rfl ?_
     obtain ⟨r12, h13, h⟩ := bndB h
     refine callW0 (ref02_Var_ev h13) rfl ?_
     refine rt ?_
     obtain rfl := Option.some.inj h
     exact en rfl rfl
    ·refine sk ?_
     exact jt r4.2 h rfl rfl rfl
   ·refine gf rfl ?_
    refine gf rfl ?_
    refine cdF rfl ?_
    refine sk ?_
    exact jt o0.At h rfl rfl rfl
  ·refine join (fun x147 : Int => ⟨[(0, .ptr 1000 0), (1, .d (.slice (dTys g))), (3, .d (.int .i64 depth)), (6, .ptr 6 0), (8, .ptr 8 0)], [(1000, some (.cells [.d (.slice (dInts o0.L)), .d (.int .i64 x147)] 94)), (6, some (.cells ((dTy t).map V.d) 34)), (8, some (.cells [.d (.int .i64 0), .d (.int .i64 0), .d (.int .i64 0), .d .nils, .d .nils] 52))], [1000, 6, 8]⟩) (fun x147 => make_Term_02b_k2 self g t depth o0 x147) r ?_ (fun x147 h => ?_)
   ·refine rg pg ?_
    refine cd h rfl (fun h hb16 => ?_) (fun h hb16 => ?_)
    ·refine rg pg ?_
     obtain ⟨r17, h18, h⟩ := bndB h
     refine callW [(1000, 1000)] (make_Deck_Next_eb1_ev h18) rfl rfl rfl rfl rfl ?_
     refine bk ?_
     refine rg pg ?_
     refine cd h rfl (fun h hb19 => ?_) (fun h hb19 => ?_)
     ·refine rg pg ?_
      obtain ⟨r20, h21, h⟩ := bndB h
      refine callW [(1000, 1000)] (make_Type_eb1_ev h21) rfl rfl rfl rfl rfl ?_
      refine rgd pg ?_
      refine Ask.mk ⟨rfl, rfl⟩ (BsW.mk (dTys_map [r20.1]).symm (dTys_sz _) ?_)
      obtain ⟨r22, h23, h⟩ := bndB h
      refine callW0 (make_longer_ev h23) rfl ?_
      obtain ⟨r24, h25, h⟩ := bndB h
      refine callW [(1000, 1000)] (hs h25) rfl rfl rfl rfl rfl ?_
      refine Ask.mk ⟨rfl, rfl⟩ (BsW.mk (dTms_map [r24.1]).symm (dTms_sz _) ?_)
      obtain ⟨r26, h27, h⟩ := bndB h
      refine callW0 (ref02_T_ev h27) rfl ?_
      obtain ⟨r28, h29, h⟩ := bndB h
      refine callW [(1000, 1000)] (hs h29) rfl rfl rfl rfl rfl ?_
      refine Ask.mk ⟨rfl, rfl⟩ (BsW.mk (dTms_map [r26, r28.1]).symm (dTms_sz _) ?_)
      obtain ⟨r30, h31, h⟩ := bndB h
      refine callW0 (ref02_N_ev h31) rfl ?_
      refine Ask.mk (by kernel_rfl) ?_
      refine rt ?_
      obtain rfl := Option.some.inj h
      exact en rfl rfl
     ·refine rg pg ?_
      refine cd h rfl (fun h hb32 => ?_) (fun h hb32 => ?_)
      ·refine rg pg ?_
       obtain ⟨r33, h34, h⟩ := bndB h
       refine callW [(1000, 1000)] (make_Type_eb1_ev h34) rfl rfl rfl rfl rfl ?_
       refine rgd pg ?_
       obtain ⟨r35, h36, h⟩ := bndB h
       refine callW [(1000, 1000)] (hs h36) rfl rfl rfl rfl rfl ?_
       obtain ⟨r37, h38, h⟩ := bndB h
       refine callW [(1000, 1000)] (hs h38) rfl rfl rfl rfl rfl ?_
       refine Ask.mk ⟨rfl, rfl⟩ (BsW.mk (dTms_map [r35.1, r37.1]).symm (dTms_sz _) ?_)
       obtain ⟨r39, h40, h⟩ := bndB h
       refine callW0 (ref02_N_ev h40) rfl ?_
       refine Ask.mk ⟨rfl, rfl⟩ (BsW.mk (dTms_map [r39]).symm (dTms_sz _) ?_)
       obtain ⟨r41, h42, h⟩ := bndB h
       refine callW0 (ref02_N_ev h42) rfl ?_
       refine Ask.mk (by kernel_rfl) ?_
       refine rt ?_
       obtain rfl := Option.some.inj h
       exact en rfl rfl
      ·refine rg pg ?_
       refine cd h rfl (fun h hb43 => ?_) (fun h hb43 => ?_)
       ·refine rgd pg ?_
        obtain ⟨r44, h45, h⟩ := bndB h
        refine callW0 (ref01_Nat_ev h45) rfl ?_
        obtain ⟨r46, h47, h⟩ := bndB h
        refine callW0 (ref01_Nat_ev h47) rfl ?_
        refine Ask.mk ⟨rfl, rfl⟩ (BsW.mk (dTys_map [r46, t]).symm (dTys_sz _) ?_)
        obtain ⟨r48, h49, h⟩ := bndB h
        refine callW0 (make_longer_ev h49) rfl ?_
        obtain ⟨r50, h51, h⟩ := bndB h
        refine callW [(1000, 1000)] (hs h51) rfl rfl rfl rfl rfl ?_
        refine Ask.mk ⟨rfl, rfl⟩ (BsW.mk (dTms_map [r50.1]).symm (dTms_sz _) ?_)
        obtain ⟨r52, h53, h⟩ := bndB h
        refine callW0 (ref02_T_ev h53) rfl ?_
        refine Ask.mk ⟨rfl, rfl⟩ (BsW.mk (dTms_map [r52]).symm (dTms_sz _) ?_)
        obtain ⟨r54, h55, h⟩ := bndB h
        refine callW0 (ref02_T_ev h55) rfl ?_
        refine Ask.mk (by kernel_rfl) ?_
        refine rgd pg ?_
        obtain ⟨r56, h57, h⟩ := bndB h
        refine callW [(1000, 1000)] (hs h57) rfl rfl rfl rfl rfl ?_
        obtain ⟨r58, h59, h⟩ := bndB h
        refine callW [(1000, 1000)] (make_Deck_Next_eb1_ev h59) rfl rfl rfl rfl rfl ?_
        obtain ⟨r60, h61, h⟩ := bndB h
        refine callW0 (make_Num_ev h61) rfl ?_
        refine Ask.mk ⟨rfl, rfl⟩ (BsW.mk (dTms_map [r56.1, r54, r60]).symm (dTms_sz _) ?_)
        obtain ⟨r62, h63, h⟩ := bndB h
        refine callW0 (ref02_T_ev h63) rfl ?_
        refine Ask.mk (by kernel_rfl) ?_
        refine rt ?_
        obtain rfl := Option.some.inj h
        exact en rfl rfl
       ·refine rg pg ?_
        refine cd h rfl (fun h hb64 => ?_) (fun h hb64 => ?_)
        ·refine rgd pg ?_
         obtain ⟨r65, h66, h⟩ := bndB h
         refine callW0 (ref01_Nat_ev h66) rfl ?_
         obtain ⟨r67, h68, h⟩ := bndB h
         refine callW0 (ref01_List_ev h68) rfl ?_
         obtain ⟨r69, h70, h⟩ := bndB h
         refine callW0 (ref01_Nat_ev h70) rfl ?_
         obtain ⟨r71, h72, h⟩ := bndB h
         refine callW0 (ref01_List_ev h72) rfl ?_
         refine Ask.mk ⟨rfl, rfl⟩ (BsW.mk (dTys_map [r69, r71, t]).symm (dTys_sz _) ?_)
         obtain ⟨r73, h74, h⟩ := bndB h
         refine callW0 (make_longer_ev h74) rfl ?_
         obtain ⟨r75, h76, h⟩ := bndB h
         refine callW [(1000, 1000)] (hs h76) rfl rfl rfl rfl rfl ?_
         refine Ask.mk ⟨rfl, rfl⟩ (BsW.mk (dTms_map [r75.1]).symm (dTms_sz _) ?_)
         obtain ⟨r77, h78, h⟩ := bndB h
         refine callW0 (ref02_T_ev h78) rfl ?_
         refine Ask.mk ⟨rfl, rfl⟩ (BsW.mk (dTms_map [r77]).symm (dTms_sz _) ?_)
         obtain ⟨r79, h80, h⟩ := bndB h
         refine callW0 (ref02_T_ev h80) rfl ?_
         refine Ask.mk ⟨rfl, rfl⟩ (BsW.mk (dTms_map [r79]).symm (dTms_sz _) ?_)
         obtain ⟨r81, h82, h⟩ := bndB h
         refine callW0 (ref02_T_ev h82) rfl ?_
         refine Ask.mk (by kernel_rfl) ?_
         refine rgd pg ?_
         obtain ⟨r83, h84, h⟩ := bndB h
         refine callW [(1000, 1000)] (hs h84) rfl rfl rfl rfl rfl ?_
         obtain ⟨r85, h86, h⟩ := bndB h
         refine callW0 (ref01_List_ev h86) rfl ?_
         obtain ⟨r87, h88, h⟩ := bndB h
         refine callW [(1000, 1000)] (hs h88) rfl rfl rfl rfl rfl ?_
         refine Ask.mk ⟨rfl, rfl⟩ (BsW.mk (dTms_map [r83.1, r81, r87.1]).symm (dTms_sz _) ?_)
         obtain ⟨r89, h90, h⟩ := bndB h
         refine callW0 (ref02_T_ev h90) rfl ?_
         refine Ask.mk (by kernel_rfl) ?_
         refine rt ?_
         obtain rfl := Option.some.inj h
         exact en rfl rfl
        ·refine rg pg ?_
         refine cd h rfl (fun h hb91 => ?_) (fun h hb91 => ?_)
         ·refine rg pg ?_
          obtain ⟨r92, h93, h⟩ := bndB h
          refine callW [(1000, 1000)] (make_Type_eb1_ev h93) rfl rfl rfl rfl rfl ?_
          refine rgd pg ?_
          obtain ⟨r94, h95, h⟩ := bndB h
          refine callW [(1000, 1000)] (hs h95) rfl rfl rfl rfl rfl ?_
          obtain ⟨r96, h97, h⟩ := bndB h
          refine callW [(1000, 1000)] (hs h97) rfl rfl rfl rfl rfl ?_
          refine Ask.mk ⟨rfl, rfl⟩ (BsW.mk (dTms_map [r94.1, r96.1]).symm (dTms_sz _) ?_)
          obtain ⟨r98, h99, h⟩ := bndB h
          refine callW0 (ref02_N_ev h99) rfl ?_
          refine Ask.mk ⟨rfl, rfl⟩ (BsW.mk (dTms_map [r98]).symm (dTms_sz _) ?_)
          obtain ⟨r100, h101, h⟩ := bndB h
          refine callW0 (ref02_N_ev h101) rfl ?_
          refine Ask.mk (by kernel_rfl) ?_
          refine rt ?_
          obtain rfl := Option.some.inj h
          exact en rfl rfl
         ·refine rg pg ?_
          refine cd h rfl (fun h hb102 => ?_) (fun h hb102 => ?_)
          ·refine rg pg ?_
           refine LenW.mk (dTys_len _) ?_
           refine rangeK (X := Unit) pg g _ rfl (fun x107 => [(0, .ptr 1000 0), (1, .d (.slice (dTys g))), (3, .d (.int .i64 depth)), (6, .ptr 6 0), (8, .ptr 8 0)]) (fun x107 => [(1000, some (.cells [.d (.slice (dInts o0.L)), .d (.int .i64 r17.2)] 94)), (6, some (.cells ((dTy t).map V.d) 34)), (8, some (.cells [.d (.int .i64 0), .d (.int .i64 0), .d (.int .i64 0), .d .nils, .d .nils] 52))]) [1000, 6, 8] h rfl rfl rfl rfl (fun _ => ⟨rfl, rfl⟩) 1 rfl (dTys_len _) (fun k104 i105 a103 x107 _ g106 h => ?_) (fun x107 h => ?_)
           ·refine rg pg ?_
            refine rg pg ?_
            refine LenW.mk (dTys_len _) ?_
            obtain ⟨a127, p128, g129, h⟩ := idxB h
            refine IdxW.mk p128 (dTys_get g129) rfl ?_
            refine rgd pg ?_
            refine gwT h (fun h hb130 => ?_) (fun h hb130 => ?_)
            ·refine gl rfl ?_
             refine gl rfl ?_
             obtain ⟨a131, p132, g133, h⟩ := idxB h
             refine IdxW.mk p132 (dTys_get g133) rfl ?_
             refine gl rfl ?_
             refine gl rfl ?_
             refine gl rfl ?_
             obtain ⟨r134, h135, h⟩ := bndB h
             refine callW0 (ref01_Same_ev h135) rfl ?_
             refine Ask.mk (by kernel_rfl) ?_
             refine cd h rfl (fun h hb136 => ?_) (fun h hb136 => ?_)
             ·refine rgd pg ?_
              obtain ⟨r137, h138, h⟩ := bndB h
              refine callW0 (ref02_Var_ev h138) rfl ?_
              obtain ⟨a139, p140, g141, h⟩ := idxB h
              refine IdxW.mk p140 (dTys_get g141) rfl ?_
              obtain ⟨r142, h143, h⟩ := bndB h
              refine callW [(1000, 1000)] (hs h143) rfl rfl rfl rfl rfl ?_
              refine Ask.mk ⟨rfl, rfl⟩ (BsW.mk (dTms_map [r137, r142.1]).symm (dTms_sz _) ?_)
              obtain ⟨r144, h145, h⟩ := bndB h
              refine callW0 (ref02_N_ev h145) rfl ?_
              refine Ask.mk (by kernel_rfl) ?_
              refine rt ?_
              obtain rfl := Option.some.inj h
              exact en rfl rfl
             ·refine sk ?_
              exact jt () h rfl rfl rfl
            ·refine gf rfl ?_
             refine gf rfl ?_
             refine gf rfl ?_
             refine gf rfl ?_
             refine gf rfl ?_
             refine Ask.mk (by kernel_rfl) ?_
             refine cdF rfl ?_
             refine sk ?_
             exact jt () h rfl rfl rfl
           ·exact jt r17.2 h rfl rfl rfl
          ·refine sk ?_
           exact jt r17.2 h rfl rfl rfl
    ·refine sk ?_
     exact jt x15 h rfl rfl rfl
   ·refine sq ?_
    refine rg pg ?_
    refine bk ?_
    refine rg pg ?_
    refine cd h rfl (fun h hb148 => ?_) (fun h hb148 => ?_)
    ·refine join (fun x176 : Int => ⟨[(0, .ptr 1000 0), (8, .ptr 8 0)], [(1000, some (.cells [.d (.slice (dInts o0.L)), .d (.int .i64 x176)] 94)), (8, some (.cells [.d (.int .i64 0), .d (.int .i64 0), .d (.int .i64 0), .d .nils, .d .nils] 52))], [1000, 8]⟩) (fun x176 => make_Term_02b_k3 o0 x176) r ?_ (fun x176 h => ?_)
     ·refine rg pg ?_
      refine cd h rfl (fun h hb149 => ?_) (fun h hb149 => ?_)
      ·refine rg pg ?_
       obtain ⟨r150, h151, h⟩ := bndB h
       refine callW [(1000, 1000)] (make_Deck_Next_eb1_ev h151) rfl rfl rfl rfl rfl ?_
       refine bk ?_
       refine rg pg ?_
       refine cd h rfl (fun h hb152 => ?_) (fun h hb152 => ?_)
       ·refine rg pg ?_
        obtain ⟨r153, h154, h⟩ := bndB h
        refine callW [(1000, 1000)] (hs h154) rfl rfl rfl rfl rfl ?_
        refine Ask.mk ⟨rfl, rfl⟩ (BsW.mk (dTms_map [r153.1]).symm (dTms_sz _) ?_)
        obtain ⟨r155, h156, h⟩ := bndB h
        refine callW0 (ref02_N_ev h156) rfl ?_
        refine rt ?_
        obtain rfl := Option.some.inj h
        exact en rfl rfl
       ·refine rg pg ?_
        refine cd h rfl (fun h hb157 => ?_) (fun h hb157 => ?_)
        ·refine rgd pg ?_
         obtain ⟨r158, h159, h⟩ := bndB h
         refine callW0 (ref05_Plus_ev h159) rfl ?_
         obtain ⟨r160, h161, h⟩ := bndB h
         refine callW [(1000, 1000)] (hs h161) rfl rfl rfl rfl rfl ?_
         obtain ⟨r162, h163, h⟩ := bndB h
         refine callW [(1000, 1000)] (hs h163) rfl rfl rfl rfl rfl ?_
         refine Ask.mk ⟨rfl, rfl⟩ (BsW.mk (dTms_map [r160.1, r162.1]).symm (dTms_sz _) ?_)
         obtain ⟨r164, h165, h⟩ := bndB h
         refine callW0 (make_App_ev h165) rfl ?_
         refine Ask.mk (by kernel_rfl) ?_
         refine rt ?_
         obtain rfl := Option.some.inj h
         exact en rfl rfl
        ·refine rg pg ?_
         refine cd h rfl (fun h hb166 => ?_) (fun h hb166 => ?_)
         ·refine rgd pg ?_
          obtain ⟨r167, h168, h⟩ := bndB h
          refine callW0 (ref05_Sub_ev h168) rfl ?_
          obtain ⟨r169, h170, h⟩ := bndB h
          refine callW [(1000, 1000)] (hs h170) rfl rfl rfl rfl rfl ?_
          obtain ⟨r171, h172, h⟩ := bndB h
          refine callW [(1000, 1000)] (hs h172) rfl rfl rfl rfl rfl ?_
          refine Ask.mk ⟨rfl, rfl⟩ (BsW.mk (dTms_map [r169.1, r171.1]).symm (dTms_sz _) ?_)
          obtain ⟨r173, h174, h⟩ := bndB h
          refine callW0 (make_App_ev h174) rfl ?_
          refine Ask.mk (by kernel_rfl) ?_
          refine rt ?_
          obtain rfl := Option.some.inj h
          exact en rfl rfl
         ·refine sk ?_
          exact jt r150.2 h rfl rfl rfl
      ·refine sk ?_
       exact jt x147 h rfl rfl rfl
     ·refine rg pg ?_
      obtain ⟨r177, h178, h⟩ := bndB h
      refine callW [(1000, 1000)] (make_Deck_Next_eb1_ev h178) rfl rfl rfl rfl rfl ?_
      obtain ⟨r179, h180, h⟩ := bndB h
      refine callW0 (make_Num_ev h180) rfl ?_
      refine rt ?_
      obtain rfl := Option.some.inj h
      exact en rfl rfl
    ·refine rg pg ?_
     refine cd h rfl (fun h hb181 => ?_) (fun h hb181 => ?_)
     ·refine sq ?_
      refine rg pg ?_
      refine gwT h (fun h hb182 => ?_) (fun h hb182 => ?_)
      ·refine gl rfl ?_
       obtain ⟨r183, h184, h⟩ := bndB h
       refine callW [(1000, 1000)] (make_Deck_Next_eb1_ev h184) rfl rfl rfl rfl rfl ?_
       refine gl rfl ?_
       refine cd h rfl (fun h hb185 => ?_) (fun h hb185 => ?_)
       ·refine rgd pg ?_
        obtain ⟨r186, h187, h⟩ := bndB h
        refine callW0 (ref01_Nat_ev h187) rfl ?_
        obtain ⟨r188, h189, h⟩ := bndB h
        refine callW [(1000, 1000)] (hs h189) rfl rfl rfl rfl rfl ?_
        obtain ⟨r190, h191, h⟩ := bndB h
        refine callW [(1000, 1000)] (hs h191) rfl rfl rfl rfl rfl ?_
        refine Ask.mk ⟨rfl, rfl⟩ (BsW.mk (dTms_map [r188.1, r190.1]).symm (dTms_sz _) ?_)
        obtain ⟨r192, h193, h⟩ := bndB h
        refine callW0 (ref02_N_ev h193) rfl ?_
        refine Ask.mk (by kernel_rfl) ?_
        refine rt ?_
        obtain rfl := Option.some.inj h
        exact en rfl rfl
       ·refine sk ?_
        refine rg pg ?_
        obtain ⟨r194, h195, h⟩ := bndB h
        refine callW0 (ref02_N_ev h195) rfl ?_
        refine rt ?_
        obtain rfl := Option.some.inj h
        exact en rfl rfl
      ·refine gf rfl ?_
       refine gf rfl ?_
       refine cdF rfl ?_
       refine sk ?_
       refine rg pg ?_
       obtain ⟨r196, h197, h⟩ := bndB h
       refine callW0 (ref02_N_ev h197) rfl ?_
       refine rt ?_
       obtain rfl := Option.some.inj h
       exact en rfl rfl
     ·refine rg pg ?_
      refine cd h rfl (fun h hb198 => ?_) (fun h hb198 => ?_)
      ·refine rgd pg ?_
       obtain ⟨a199, p200, g201, h⟩ := idxB h
       refine IdxW.mk p200 (dTys_get g201) rfl ?_
       obtain ⟨r202, h203, h⟩ := bndB h
       refine callW [(1000, 1000)] (hs h203) rfl rfl rfl rfl rfl ?_
       obtain ⟨a204, p205, g206, h⟩ := idxB h
       refine IdxW.mk p205 (dTys_get g206) rfl ?_
       obtain ⟨r207, h208, h⟩ := bndB h
       refine callW [(1000, 1000)] (hs h208) rfl rfl rfl rfl rfl ?_
       refine Ask.mk ⟨rfl, rfl⟩ (BsW.mk (dTms_map [r202.1, r207.1]).symm (dTms_sz _) ?_)
       obtain ⟨r209, h210, h⟩ := bndB h
       refine callW0 (ref02_N_ev h210) rfl ?_
       refine Ask.mk (by kernel_rfl) ?_
       refine rt ?_
       obtain rfl := Option.some.inj h
       exact en rfl rfl
      ·refine rg pg ?_
       refine cd h rfl (fun h hb211 => ?_) (fun h hb211 => ?_)
       ·refine rgd pg ?_
        obtain ⟨a212, p213, g214, h⟩ := idxB h
        refine IdxW.mk p213 (dTys_get g214) rfl ?_
        refine IdxW.mk p213 (dTys_get g214) rfl ?_
        refine Ask.mk ⟨rfl, rfl⟩ (BsW.mk (dTys_map [a212]).symm (dTys_sz _) ?_)
        obtain ⟨r215, h216, h⟩ := bndB h
        refine callW0 (make_longer_ev h216) rfl ?_
        obtain ⟨a217, p218, g219, h⟩ := idxB h
        refine IdxW.mk p218 (dTys_get g219) rfl ?_
        obtain ⟨r220, h221, h⟩ := bndB h
        refine callW [(1000, 1000)] (hs h221) rfl rfl rfl rfl rfl ?_
        refine Ask.mk ⟨rfl, rfl⟩ (BsW.mk (dTms_map [r220.1]).symm (dTms_sz _) ?_)
        obtain ⟨r222, h223, h⟩ := bndB h
        refine callW0 (ref02_T_ev h223) rfl ?_
        refine Ask.mk (by kernel_rfl) ?_
        refine rt ?_
        obtain rfl := Option.some.inj h
        exact en rfl rfl
       ·refine sk ?_
        refine rg pg ?_
        obtain ⟨r224, h225, h⟩ := bndB h
        refine callW0 (ref02_N_ev h225) rfl ?_
        refine rt ?_
        obtain rfl := Option.some.inj h
        exact en rfl rfl
theorem make_Term_02b_me : ∀ (m : Nat) {g : List Typ} {t : Typ} {depth : Int} {o0 : S_make_Deck} {r : Trm × Int}, make_Term_02b_m m g t depth o0 = some r → Ev Tryz.prog GL 24 [.ptr 1000 0, .d (.slice (dTys g)), .agg ((dTy t).map V.d), .d (.int .i64 depth)] [(1000, .cells ((cS_make_Deck o0).map V.d) 94)] (.agg ((dTm r.1).map V.d)) [(1000, .cells [.d (.slice (dInts o0.L)), .d (.int .i64 r.2)] 94)]
  | 0, _, _, _, _, _, h => nomatch (show none = some _ from h)
  | m + 1, _, _, _, _, _, h => make_Term_02b_be (make_Term_02b_m m) (fun h => make_Term_02b_me m h) h
theorem make_Term_02b_ev {g : List Typ} {t : Typ} {depth : Int} {o0 : S_make_Deck} {r : Trm × Int} (h : make_Term_02b g t depth o0 = some r) : Ev Tryz.prog GL 24 [.ptr 1000 0, .d (.slice (dTys g)), .agg ((dTy t).map V.d), .d (.int .i64 depth)] [(1000, .cells ((cS_make_Deck o0).map V.d) 94)] (.agg ((dTm r.1).map V.d)) [(1000, .cells [.d (.slice (dInts o0.L)), .d (.int .i64 r.2)] 94)] := make_Term_02b_me FU h
theorem make_Formula_6d8_be (self : (List Typ) → Int → S_make_Deck → Option (Frm × Int)) (hs : ∀ {g : List Typ} {depth : Int} {o0 : S_make_Deck} {r : Frm × Int}, self g depth o0 = some r → Ev Tryz.prog GL 37 [.ptr 1000 0, .d (.slice (dTys g)), .d (.int .i64 depth)] [(1000, .cells ((cS_make_Deck o0).map V.d) 94)] (.agg ((dFm r.1).map V.d)) [(1000, .cells [.d (.slice (dInts o0.L)), .d (.int .i64 r.2)] 94)]) {g : List Typ} {depth : Int} {o0 : S_make_Deck} {r : Frm × Int} (h : make_Formula_6d8_b self g depth o0 = some r) : Ev Tryz.prog GL 37 [.ptr 1000 0, .d (.slice (dTys g)), .d (.int .i64 depth)] [(1000, .cells ((cS_make_Deck o0).map V.d) 94)] (.agg ((dFm r.1).map V.d)) [(1000, .cells [.d (.slice (dInts o0.L)), .d (.int .i64 r.2)] 94)] := by
  refine evb pg Tryz.func37 rfl (by kernel_rfl) 98 [.cell 6 45] rfl rfl rfl (fun E ι0 => ?_)
  refine rg pg ?_
  refine join (fun x54 : Int => ⟨[(0, .ptr 1000 0), (1, .d (.slice (dTys g))), (6, .ptr 6 0)], [(1000, some (.cells [.d (.slice (dInts o0.L)), .d (.int .i64 x54)] 94)), (6, some (.cells [.d (.int .i64 0), .d (.int .i64 0), .d .nils, .d .nils, .d .nils] 45))], [1000, 6]⟩) (fun x54 => make_Formula_6d8_k3 g o0 x54) r ?_ (fun x54 h => ?_)
  ·refine rg pg ?_
   refine cd h rfl (fun h hb1 => ?_) (fun h hb1 => ?_)
   ·refine rg pg ?_
    obtain ⟨r2, h3, h⟩ := bndB h
    refine callW [(1000, 1000)] (make_Deck_Next_eb1_ev h3) rfl rfl rfl rfl rfl ?_
    refine bk ?_
    refine rg pg ?_
    refine cd h rfl (fun h hb4 => ?_) (fun h hb4 => ?_)
    ·refine rg pg ?_
     obtain ⟨r5, h6, h⟩ := bndB h
     refine callW [(1000, 1000)] (hs h6) rfl rfl rfl rfl rfl ?_
     obtain ⟨r7, h8, h⟩ := bndB h
     refine callW [(1000, 1000)] (hs h8) rfl rfl rfl rfl rfl ?_
     obtain ⟨r9, h10, h⟩ := bndB h
     refine callW0 (ref07_Two_ev h10) rfl ?_
     refine rt ?_
     obtain rfl := Option.some.inj h
     exact en rfl rfl
    ·refine join (fun x13 : Bool => ⟨[(0, .ptr 1000 0), (1, .d (.slice (dTys g))), (2, .d (.int .i64 depth)), (6, .ptr 6 0), (14, .d (.int .i64 r2.1)), (28, .d (.bool x13))], [(1000, some (.cells [.d (.slice (dInts o0.L)), .d (.int .i64 r2.2)] 94)), (6, some (.cells [.d (.int .i64 0), .d (.int .i64 0), .d .nils, .d .nils, .d .nils] 45))], [1000, 6]⟩) (fun x13 => make_Formula_6d8_k1 self g depth o0 r2 x13) r ?_ (fun x13 h => ?_)
     ·refine rg pg ?_
      refine cd h rfl (fun h hb11 => ?_) (fun h hb11 => ?_)
      ·refine sk ?_
       exact jt true h rfl rfl rfl
      ·refine rl pg ?_
       exact jt (r2.1 == 2) h rfl rfl rfl
     ·refine cd h rfl (fun h hb14 => ?_) (fun h hb14 => ?_)
      ·refine rg pg ?_
       obtain ⟨r15, h16, h⟩ := bndB h
       refine callW [(1000, 1000)] (hs h16) rfl rfl rfl rfl rfl ?_
       obtain ⟨r17, h18, h⟩ := bndB h
       refine callW [(1000, 1000)] (hs h18) rfl rfl rfl rfl rfl ?_
       obtain ⟨r19, h20, h⟩ := bndB h
       refine callW0 (ref07_Two_ev h20) rfl ?_
       refine rt ?_
       obtain rfl := Option.some.inj h
       exact en rfl rfl
      ·refine join (fun x23 : Bool => ⟨[(0, .ptr 1000 0), (1, .d (.slice (dTys g))), (2, .d (.int .i64 depth)), (6, .ptr 6 0), (14, .d (.int .i64 r2.1)), (42, .d (.bool x23))], [(1000, some (.cells [.d (.slice (dInts o0.L)), .d (.int .i64 r2.2)] 94)), (6, some (.cells [.d (.int .i64 0), .d (.int .i64 0), .d .nils, .d .nils, .d .nils] 45))], [1000, 6]⟩) (fun x23 => make_Formula_6d8_k2 self g depth o0 r2 x23) r ?_ (fun x23 h => ?_)
       ·refine rg pg ?_
        refine cd h rfl (fun h hb21 => ?_) (fun h hb21 => ?_)
        ·refine sk ?_
         exact jt true h rfl rfl rfl
        ·refine rl pg ?_
         exact jt (r2.1 == 4) h rfl rfl rfl
       ·refine cd h rfl (fun h hb24 => ?_) (fun h hb24 => ?_)
        ·refine rg pg ?_
         obtain ⟨r25, h26, h⟩ := bndB h
         refine callW [(1000, 1000)] (make_Type_eb1_ev h26) rfl rfl rfl rfl rfl ?_
         refine rgd pg ?_
         refine Ask.mk ⟨rfl, rfl⟩ (BsW.mk (dTys_map [r25.1]).symm (dTys_sz _) ?_)
         obtain ⟨r27, h28, h⟩ := bndB h
         refine callW0 (make_longer_ev h28) rfl ?_
         obtain ⟨r29, h30, h⟩ := bndB h
         refine callW [(1000, 1000)] (hs h30) rfl rfl rfl rfl rfl ?_
         obtain ⟨r31, h32, h⟩ := bndB h
         refine callW0 (ref07_Q_ev h32) rfl ?_
         refine Ask.mk (by kernel_rfl) ?_
         refine rt ?_
         obtain rfl := Option.some.inj h
         exact en rfl rfl
        ·refine rg pg ?_
         refine cd h rfl (fun h hb33 => ?_) (fun h hb33 => ?_)
         ·refine rg pg ?_
          obtain ⟨r34, h35, h⟩ := bndB h
          refine callW [(1000, 1000)] (make_Type_eb1_ev h35) rfl rfl rfl rfl rfl ?_
          refine rgd pg ?_
          refine Ask.mk ⟨rfl, rfl⟩ (BsW.mk (dTys_map [r34.1]).symm (dTys_sz _) ?_)
          obtain ⟨r36, h37, h⟩ := bndB h
          refine callW0 (make_longer_ev h37) rfl ?_
          obtain ⟨r38, h39, h⟩ := bndB h
          refine callW [(1000, 1000)] (hs h39) rfl rfl rfl rfl rfl ?_
          obtain ⟨r40, h41, h⟩ := bndB h
          refine callW0 (ref07_Q_ev h41) rfl ?_
          refine Ask.mk (by kernel_rfl) ?_
          refine rt ?_
          obtain rfl := Option.some.inj h
          exact en rfl rfl
         ·refine rg pg ?_
          refine cd h rfl (fun h hb42 => ?_) (fun h hb42 => ?_)
          ·refine rg pg ?_
           obtain ⟨r43, h44, h⟩ := bndB h
           refine callW [(1000, 1000)] (make_Type_eb1_ev h44) rfl rfl rfl rfl rfl ?_
           refine rgd pg ?_
           obtain ⟨r45, h46, h⟩ := bndB h
           refine callW [(1000, 1000)] (make_Deck_Next_eb1_ev h46) rfl rfl rfl rfl rfl ?_
           refine Ask.mk ⟨rfl, rfl⟩ (BsW.mk (dTys_map [r43.1]).symm (dTys_sz _) ?_)
           obtain ⟨r47, h48, h⟩ := bndB h
           refine callW0 (make_longer_ev h48) rfl ?_
           obtain ⟨r49, h50, h⟩ := bndB h
           refine callW [(1000, 1000)] (hs h50) rfl rfl rfl rfl rfl ?_
           obtain ⟨r51, h52, h⟩ := bndB h
           refine callW0 (ref07_Q_ev h52) rfl ?_
           refine Ask.mk (by kernel_rfl) ?_
           refine rt ?_
           obtain rfl := Option.some.inj h
           exact en rfl rfl
          ·refine sk ?_
           exact jt r2.2 h rfl rfl rfl
   ·refine sk ?_
    exact jt o0.At h rfl rfl rfl
  ·refine rg pg ?_
   obtain ⟨r55, h56, h⟩ := bndB h
   refine callW0 (ref01_Nat_ev h56) rfl ?_
   refine rgd pg ?_
   obtain ⟨r57, h58, h⟩ := bndB h
   refine callW [(1000, 1000)] (make_Term_02b_ev h58) rfl rfl rfl rfl rfl ?_
   obtain ⟨r59, h60, h⟩ := bndB h
   refine callW [(1000, 1000)] (make_Term_02b_ev h60) rfl rfl rfl rfl rfl ?_
   obtain ⟨r61, h62, h⟩ := bndB h
   refine callW0 (ref07_Eq_ev h62) rfl ?_
   refine Ask.mk (by kernel_rfl) ?_
   refine rt ?_
   obtain rfl := Option.some.inj h
   exact en rfl rfl
theorem make_Formula_6d8_me : ∀ (m : Nat) {g : List Typ} {depth : Int} {o0 : S_make_Deck} {r : Frm × Int}, make_Formula_6d8_m m g depth o0 = some r → Ev Tryz.prog GL 37 [.ptr 1000 0, .d (.slice (dTys g)), .d (.int .i64 depth)] [(1000, .cells ((cS_make_Deck o0).map V.d) 94)] (.agg ((dFm r.1).map V.d)) [(1000, .cells [.d (.slice (dInts o0.L)), .d (.int .i64 r.2)] 94)]
  | 0, _, _, _, _, h => nomatch (show none = some _ from h)
  | m + 1, _, _, _, _, h => make_Formula_6d8_be (make_Formula_6d8_m m) (fun h => make_Formula_6d8_me m h) h
theorem make_Formula_6d8_ev {g : List Typ} {depth : Int} {o0 : S_make_Deck} {r : Frm × Int} (h : make_Formula_6d8 g depth o0 = some r) : Ev Tryz.prog GL 37 [.ptr 1000 0, .d (.slice (dTys g)), .d (.int .i64 depth)] [(1000, .cells ((cS_make_Deck o0).map V.d) 94)] (.agg ((dFm r.1).map V.d)) [(1000, .cells [.d (.slice (dInts o0.L)), .d (.int .i64 r.2)] 94)] := make_Formula_6d8_me FU h
theorem formula_within_ev {n : Int} {r : Bool} (h : formula_within n = some r) : Ev Tryz.prog GL 155 [.d (.int .i64 n)] [] (.d (.bool r)) [] := by
  refine evb pg Tryz.func155 rfl (by kernel_rfl) 9 [.tmp 2] rfl rfl rfl (fun E ι0 => ?_)
  refine rg pg ?_
  refine rg pg ?_
  refine gwT h (fun h hb1 => ?_) (fun h hb1 => ?_)
  ·refine gl rfl ?_
   refine rt ?_
   obtain rfl := Option.some.inj h
   exact en rfl rfl
  ·refine gf rfl ?_
   refine rt ?_
   obtain rfl := Option.some.inj h
   exact en rfl rfl
theorem tree_Near_1_604_ev {index : Int} {__ : Int} {o0 : Bool} {r : Bool} (h : tree_Near_1_604 index __ o0 = some r) : Ev Tryz.prog GL 222 [.d (.int .i64 index), .d (.int .i64 __), .ptr 1000 0] [(1000, .cells [.d (.bool o0)] 4)] (.tup []) [(1000, .cells [.d (.bool r)] 4)] := by
  refine evb pg Tryz.func222 rfl (by kernel_rfl) 10 [] rfl rfl rfl (fun E ι0 => ?_)
  refine rl pg ?_
  refine gwT h (fun h hb1 => ?_) (fun h hb1 => ?_)
  ·refine gl rfl ?_
   obtain rfl := Option.some.inj h
   exact enN rfl rfl
  ·refine gf rfl ?_
   obtain rfl := Option.some.inj h
   exact enN rfl rfl
theorem tree_Each_1_d04_be (self : Trm → Int → Bool → Option (Bool)) (hs : ∀ {t : Trm} {below : Int} {o2 : Bool} {r : Bool}, self t below o2 = some r → Ev Tryz.prog GL 238 [.agg ((dTm t).map V.d), .d (.int .i64 below), .ptr 1000 0, .ptr 1001 0] [(1000, .cells [.clo 222 [.ptr 1002 0]] 151), (1001, .cells [.clo 238 [.ptr 1000 0, .ptr 1001 0]] 116), (1002, .cells [.d (.bool o2)] 4)] (.tup []) [(1000, .cells [.clo 222 [.ptr 1002 0]] 151), (1001, .cells [.clo 238 [.ptr 1000 0, .ptr 1001 0]] 116), (1002, .cells [.d (.bool r)] 4)]) {t : Trm} {below : Int} {o2 : Bool} {r : Bool} (h : tree_Each_1_d04_b self t below o2 = some r) : Ev Tryz.prog GL 238 [.agg ((dTm t).map V.d), .d (.int .i64 below), .ptr 1000 0, .ptr 1001 0] [(1000, .cells [.clo 222 [.ptr 1002 0]] 151), (1001, .cells [.clo 238 [.ptr 1000 0, .ptr 1001 0]] 116), (1002, .cells [.d (.bool o2)] 4)] (.tup []) [(1000, .cells [.clo 222 [.ptr 1002 0]] 151), (1001, .cells [.clo 238 [.ptr 1000 0, .ptr 1001 0]] 116), (1002, .cells [.d (.bool r)] 4)] := by
  refine evb pg Tryz.func238 rfl (by kernel_rfl) 33 [] rfl rfl rfl (fun E ι0 => ?_)
  refine rg pg ?_
  refine join (fun x5 : Bool => ⟨[(1, .d (.int .i64 below)), (3, .ptr 1001 0), (4, .ptr 4 0)], [(1001, some (.cells [.clo 238 [.ptr 1000 0, .ptr 1001 0]] 116)), (4, some (.cells ((dTm t).map V.d) 52)), (1000, some (.cells [.clo 222 [.ptr 1002 0]] 151)), (1002, some (.cells [.d (.bool x5)] 4))], [1001, 4, 1000, 1002]⟩) (fun x5 => tree_Each_1_d04_k1 self t below x5) r ?_ (fun x5 h => ?_)
  ·refine rg pg ?_
   refine cd h rfl (fun h hb1 => ?_) (fun h hb1 => ?_)
   ·refine rl pg ?_
    obtain ⟨r2, h3, h⟩ := bndB h
    refine callW [(1000, 1002)] (tree_Near_1_604_ev h3) rfl rfl rfl rfl rfl ?_
    exact jt r2 h rfl rfl rfl
   ·refine sk ?_
    exact jt o2 h rfl rfl rfl
  ·refine join (fun x8 : Int => ⟨[(1, .d (.int .i64 x8)), (3, .ptr 1001 0), (4, .ptr 4 0)], [(1001, some (.cells [.clo 238 [.ptr 1000 0, .ptr 1001 0]] 116)), (4, some (.cells ((dTm t).map V.d) 52)), (1000, some (.cells [.clo 222 [.ptr 1002 0]] 151)), (1002, some (.cells [.d (.bool x5)] 4))], [1001, 4, 1000, 1002]⟩) (fun x8 => tree_Each_1_d04_k2 self t x5 x8) r ?_ (fun x8 h => ?_)
   ·refine rg pg ?_
    refine cd h rfl (fun h hb6 => ?_) (fun h hb6 => ?_)
    ·refine rl pg ?_
     exact jt (w64 (below + 1)) h rfl rfl rfl
    ·refine sk ?_
     exact jt below h rfl rfl rfl
   ·refine rg pg ?_
    refine LenW.mk (dTms_len _) ?_
    refine rangeK (X := Bool) pg t.args _ rfl (fun x13 => [(1, .d (.int .i64 x8)), (3, .ptr 1001 0), (22, .d (.slice (dTms t.args)))]) (fun x13 => [(1001, some (.cells [.clo 238 [.ptr 1000 0, .ptr 1001 0]] 116)), (1000, some (.cells [.clo 222 [.ptr 1002 0]] 151)), (1002, some (.cells [.d (.bool x13)] 4))]) [1001, 1000, 1002] h rfl rfl rfl rfl (fun _ => ⟨rfl, rfl⟩) 22 rfl (dTms_len _) (fun k10 i11 a9 x13 _ g12 h => ?_) (fun x13 h => ?_)
    ·refine rg pg ?_
     refine IdxW.mk (Int.natCast_nonneg _) (dTms_get g12) rfl ?_
     refine rl pg ?_
     obtain ⟨r21, h22, h⟩ := bndB h
     refine callW [(1000, 1000), (1001, 1001), (1002, 1002)] (hs h22) rfl rfl rfl rfl rfl ?_
     exact jt r21 h rfl rfl rfl
    ·obtain rfl := Option.some.inj h
     exact enN rfl rfl
theorem tree_Each_1_d04_me : ∀ (m : Nat) {t : Trm} {below : Int} {o2 : Bool} {r : Bool}, tree_Each_1_d04_m m t below o2 = some r → Ev Tryz.prog GL 238 [.agg ((dTm t).map V.d), .d (.int .i64 below), .ptr 1000 0, .ptr 1001 0] [(1000, .cells [.clo 222 [.ptr 1002 0]] 151), (1001, .cells [.clo 238 [.ptr 1000 0, .ptr 1001 0]] 116), (1002, .cells [.d (.bool o2)] 4)] (.tup []) [(1000, .cells [.clo 222 [.ptr 1002 0]] 151), (1001, .cells [.clo 238 [.ptr 1000 0, .ptr 1001 0]] 116), (1002, .cells [.d (.bool r)] 4)]
  | 0, _, _, _, _, h => nomatch (show none = some _ from h)
  | m + 1, _, _, _, _, h => tree_Each_1_d04_be (tree_Each_1_d04_m m) (fun h => tree_Each_1_d04_me m h) h
theorem tree_Each_1_d04_ev {t : Trm} {below : Int} {o2 : Bool} {r : Bool} (h : tree_Each_1_d04 t below o2 = some r) : Ev Tryz.prog GL 238 [.agg ((dTm t).map V.d), .d (.int .i64 below), .ptr 1000 0, .ptr 1001 0] [(1000, .cells [.clo 222 [.ptr 1002 0]] 151), (1001, .cells [.clo 238 [.ptr 1000 0, .ptr 1001 0]] 116), (1002, .cells [.d (.bool o2)] 4)] (.tup []) [(1000, .cells [.clo 222 [.ptr 1002 0]] 151), (1001, .cells [.clo 238 [.ptr 1000 0, .ptr 1001 0]] 116), (1002, .cells [.d (.bool r)] 4)] := tree_Each_1_d04_me FU h
theorem tree_Each_322_ev {t : Trm} {o0 : Bool} {r : Bool} (h : tree_Each_322 t o0 = some r) : Ev Tryz.prog GL 142 [.agg ((dTm t).map V.d), .clo 222 [.ptr 1000 0]] [(1000, .cells [.d (.bool o0)] 4)] (.tup []) [(1000, .cells [.d (.bool r)] 4)] := by
  refine evb pg Tryz.func142 rfl (by kernel_rfl) 9 [] rfl rfl rfl (fun E ι0 => ?_)
  refine rg pg ?_
  refine rg pg ?_
  refine rg pg ?_
  refine rl pg ?_
  obtain ⟨r1, h2, h⟩ := bndB h
  refine callW [(1000, 3), (1001, 4), (1002, 1000)] (tree_Each_1_d04_ev h2) rfl rfl rfl rfl rfl ?_
  obtain rfl := Option.some.inj h
  exact enN rfl rfl
theorem tree_Near_ev {t : Trm} {r : Bool} (h : tree_Near t = some r) : Ev Tryz.prog GL 113 [.agg ((dTm t).map V.d)] [] (.d (.bool r)) [] := by
  refine evb pg Tryz.func113 rfl (by kernel_rfl) 8 [.tmp 2] rfl rfl rfl (fun E ι0 => ?_)
  refine rg pg ?_
  refine rg pg ?_
  refine rg pg ?_
  obtain ⟨r1, h2, h⟩ := bndB h
  refine callW [(1000, 3)] (tree_Each_322_ev h2) rfl rfl rfl rfl rfl ?_
  refine rg pg ?_
  refine rt ?_
  obtain rfl := Option.some.inj h
  exact en rfl rfl
end Go.AM

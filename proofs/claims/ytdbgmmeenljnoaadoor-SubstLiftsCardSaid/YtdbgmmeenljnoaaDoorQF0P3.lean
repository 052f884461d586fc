/-
  The Go functions reckon what the printed ones do.
-/
import Derived.Test.YtdbgmmeenljnoaaDoorQF0P2
set_option linter.unusedVariables false
set_option linter.unusedSimpArgs false
set_option maxRecDepth 20000
set_option maxHeartbeats 40000000
namespace Go.AM
open Go Go.RowKit Go.Proofs
theorem law03_SubstSizes_ev {t : List Int} {r : Bool} (h : law03_SubstSizes t = some r) : Ev Tryd.prog GL 4 [.d (.slice (dInts t))] [] (.d (.bool r)) [] := by
  refine evb pg Tryd.func4 rfl (by kernel_rfl) 140 [.tmp 2] rfl rfl rfl (fun E ι0 => ?_)
  refine rg pg ?_
  refine sq ?_
  refine rg pg ?_
  obtain ⟨r1, h2, h⟩ := bndB h
  refine callW0 (law03_sane_ev h2) rfl ?_
  refine cd h rfl (fun h hb3 => ?_) (fun h hb3 => ?_)
  ·refine rg pg ?_
   refine rt ?_
   obtain rfl := Option.some.inj h
   exact en rfl rfl
  ·refine sk ?_
   refine sq ?_
   refine rg pg ?_
   obtain ⟨r4, h5, h⟩ := bndB h
   refine callW0 (make_Few_ev h5) rfl ?_
   refine cd h rfl (fun h hb6 => ?_) (fun h hb6 => ?_)
   ·refine rg pg ?_
    refine rt ?_
    obtain rfl := Option.some.inj h
    exact en rfl rfl
   ·refine sk ?_
    refine rg pg ?_
    obtain ⟨r7, h8, h⟩ := bndB h
    refine callW [(5, 10032)] (make_New_ev h8) rfl rfl rfl rfl rfl ?_
    refine rg pg ?_
    obtain ⟨r9, h10, h⟩ := bndB h
    refine callW [(1000, 10032)] (make_Context_6f7_ev h10) rfl rfl rfl rfl rfl ?_
    refine rg pg ?_
    obtain ⟨r11, h12, h⟩ := bndB h
    refine callW [(1000, 10032)] (make_Type_eb1_ev h12) rfl rfl rfl rfl rfl ?_
    refine rgd pg ?_
    obtain ⟨p13, h⟩ := gdB h
    refine AppW.mk (List.nil_append _) (fun _ h => by cases h) (dTys_sz _) (by rw [dTys_len, List.length_nil, Nat.zero_add]; exact p13) ?_
    refine Ask.mk ⟨rfl, rfl⟩ (BsW.mk (dTys_map [r11.1]).symm (dTys_sz _) ?_)
    obtain ⟨p14, h⟩ := gdB h
    refine Ask.mk ⟨rfl, rfl, rfl⟩ (AppW.mk (dTys_app _ _) (dTys_sz _) (dTys_sz _) (by rw [dTys_len, dTys_len]; exact p14) ?_)
    obtain ⟨r15, h16, h⟩ := bndB h
    refine callW [(1000, 10032)] (make_Type_eb1_ev h16) rfl rfl rfl rfl rfl ?_
    obtain ⟨r17, h18, h⟩ := bndB h
    refine callW [(1000, 10032)] (make_Term_02b_ev h18) rfl rfl rfl rfl rfl ?_
    refine Ask.mk (by kernel_rfl) ?_
    refine rg pg ?_
    obtain ⟨r19, h20, h⟩ := bndB h
    refine callW [(1000, 10032)] (make_Term_02b_ev h20) rfl rfl rfl rfl rfl ?_
    refine rg pg ?_
    obtain ⟨r21, h22, h⟩ := bndB h
    refine callW0 (subst_Put_ev h22) rfl ?_
    refine rg pg ?_
    obtain ⟨r23, h24, h⟩ := bndB h
    refine callW0 (subst_Uses_ev h24) rfl ?_
    refine rg pg ?_
    obtain ⟨r25, h26, h⟩ := bndB h
    refine callW0 (subst_Uses_ev h26) rfl ?_
    refine rg pg ?_
    obtain ⟨r27, h28, h⟩ := bndB h
    refine callW0 (subst_Uses_ev h28) rfl ?_
    refine sq ?_
    refine rg pg ?_
    refine gwF h (fun h hb29 => ?_) (fun h hb29 => ?_)
    ·refine gf rfl ?_
     refine gf rfl ?_
     refine gf rfl ?_
     refine gf rfl ?_
     refine gf rfl ?_
     refine cdT rfl ?_
     refine rg pg ?_
     refine rt ?_
     obtain rfl := Option.some.inj h
     exact en rfl rfl
    ·refine gl rfl ?_
     refine gwF h (fun h hb30 => ?_) (fun h hb30 => ?_)
     ·refine gf rfl ?_
      refine gf rfl ?_
      refine gf rfl ?_
      refine cdT rfl ?_
      refine rg pg ?_
      refine rt ?_
      obtain rfl := Option.some.inj h
      exact en rfl rfl
     ·refine gl rfl ?_
      refine gwF h (fun h hb31 => ?_) (fun h hb31 => ?_)
      ·refine gf rfl ?_
       refine cdT rfl ?_
       refine rg pg ?_
       refine rt ?_
       obtain rfl := Option.some.inj h
       exact en rfl rfl
      ·refine gl rfl ?_
       refine cd h rfl (fun h hb32 => ?_) (fun h hb32 => ?_)
       ·refine rg pg ?_
        refine rt ?_
        obtain rfl := Option.some.inj h
        exact en rfl rfl
       ·refine sk ?_
        refine rg pg ?_
        refine rg pg ?_
        refine sq ?_
        refine rg pg ?_
        refine LenW.mk (dInts_len _) ?_
        refine rangeK (X := Bool × (List (Int × Bool))) pg r23.1 _ rfl (fun x37 => [(6, .ptr 6 0), (7, .ptr 7 0), (8, .ptr 8 0), (12, .d (.slice (dInts r25.1))), (14, .d (.slice (dInts r27.1))), (16, .map 85), (17, .d (.bool x37.1)), (86, .d (.slice (dInts r23.1)))]) (fun x37 => [(6, some (.cells ((dTm r17.1).map V.d) 34)), (7, some (.cells ((dTm r19.1).map V.d) 34)), (8, some (.cells ((dTm r21.1).map V.d) 34)), (85, some (.map ⟨1, dMap kI vB x37.2⟩))]) [6, 7, 8, 85] h rfl rfl rfl rfl (fun _ => ⟨rfl, rfl⟩) 59 rfl (dInts_len _) (fun k34 i35 a33 x37 _ g36 h => ?_) (fun x37 h => ?_)
        ·refine rg pg ?_
         refine IdxW.mk (Int.natCast_nonneg _) (dInts_get g36) rfl ?_
         refine rg pg ?_
         refine cd h rfl (fun h hb46 => ?_) (fun h hb46 => ?_)
         ·refine rl pg ?_
          exact jt (true, x37.2) h rfl rfl rfl
         ·refine rl pg ?_
          refine MSetW.mk (dMap_set (ev := vB) beI x37.2 (w64 (a33 - 1)) true) ?_
          exact jt (x37.1, (mset x37.2 (w64 (a33 - 1)) true)) h rfl rfl rfl
        ·refine sq ?_
         refine rg pg ?_
         refine LenW.mk (dInts_len _) ?_
         refine rangeK (X := (List (Int × Bool))) pg r25.1 _ rfl (fun x57 => [(6, .ptr 6 0), (7, .ptr 7 0), (8, .ptr 8 0), (14, .d (.slice (dInts r27.1))), (16, .map 85), (17, .d (.bool x37.1)), (98, .d (.slice (dInts r25.1)))]) (fun x57 => [(6, some (.cells ((dTm r17.1).map V.d) 34)), (7, some (.cells ((dTm r19.1).map V.d) 34)), (8, some (.cells ((dTm r21.1).map V.d) 34)), (85, some (.map ⟨1, dMap kI vB x57⟩))]) [6, 7, 8, 85] h rfl rfl rfl rfl (fun _ => ⟨rfl, rfl⟩) 12 rfl (dInts_len _) (fun k54 i55 a53 x57 _ g56 h => ?_) (fun x57 h => ?_)
         ·refine rg pg ?_
          refine IdxW.mk (Int.natCast_nonneg _) (dInts_get g56) rfl ?_
          refine rg pg ?_
          refine cd h rfl (fun h hb63 => ?_) (fun h hb63 => ?_)
          ·refine rl pg ?_
           refine MSetW.mk (dMap_set (ev := vB) beI x57 a53 true) ?_
           exact jt (mset x57 a53 true) h rfl rfl rfl
          ·refine sk ?_
           exact jt x57 h rfl rfl rfl
         ·refine sq ?_
          refine rg pg ?_
          refine LenW.mk (dInts_len _) ?_
          refine rangeK (X := Unit) pg r27.1 _ rfl (fun x71 => [(6, .ptr 6 0), (7, .ptr 7 0), (8, .ptr 8 0), (14, .d (.slice (dInts r27.1))), (16, .map 85), (108, .d (.slice (dInts r27.1)))]) (fun x71 => [(6, some (.cells ((dTm r17.1).map V.d) 34)), (7, some (.cells ((dTm r19.1).map V.d) 34)), (8, some (.cells ((dTm r21.1).map V.d) 34)), (85, some (.map ⟨1, dMap kI vB x57⟩))]) [6, 7, 8, 85] h rfl rfl rfl rfl (fun _ => ⟨rfl, rfl⟩) 14 rfl (dInts_len _) (fun k68 i69 a67 x71 _ g70 h => ?_) (fun x71 h => ?_)
          ·refine rg pg ?_
           refine IdxW.mk (Int.natCast_nonneg _) (dInts_get g70) rfl ?_
           refine rg pg ?_
           refine MGetW.mk (dMap_getD (ev := vB) beI x57 a67 false) (dMap_isSome (ev := vB) beI x57 a67) ?_
           refine cd h rfl (fun h hb73 => ?_) (fun h hb73 => ?_)
           ·refine rg pg ?_
            refine rt ?_
            obtain rfl := Option.some.inj h
            exact en rfl rfl
           ·refine sk ?_
            exact jt () h rfl rfl rfl
          ·refine rg pg ?_
           refine join (fun x83 : Int => ⟨[(14, .d (.slice (dInts r27.1))), (16, .map 85), (24, .d (.int .i64 x83))], [(85, some (.map ⟨1, dMap kI vB x57⟩))], [85]⟩) (fun x83 => law03_SubstSizes_k1 r27 x57 x83) r ?_ (fun x83 h => ?_)
           ·refine rg pg ?_
            obtain ⟨r74, h75, h⟩ := bndB h
            refine callW0 (law03_nodesOf_ev h75) rfl ?_
            refine rg pg ?_
            refine cd h rfl (fun h hb76 => ?_) (fun h hb76 => ?_)
            ·refine rld pg ?_
             obtain ⟨r77, h78, h⟩ := bndB h
             refine callW0 (law03_nodesOf_ev h78) rfl ?_
             obtain ⟨r79, h80, h⟩ := bndB h
             refine callW0 (law03_nodesOf_ev h80) rfl ?_
             obtain ⟨p81, h⟩ := nzB h
             refine Ask.mk p81 ?_
             refine Ask.mk (by kernel_rfl) ?_
             exact jt (Int.tmod (w64 (r77 - r79)) (w64 (r74 - 1))) h rfl rfl rfl
            ·refine sk ?_
             exact jt 0 h rfl rfl rfl
           ·refine rg pg ?_
            refine LenW.mk (dInts_len _) ?_
            refine MLenW.mk (dMap_len kI vB x57) ?_
            refine gwT h (fun h hb84 => ?_) (fun h hb84 => ?_)
            ·refine gl rfl ?_
             refine rt ?_
             obtain rfl := Option.some.inj h
             exact en rfl rfl
            ·refine gf rfl ?_
             refine rt ?_
             obtain rfl := Option.some.inj h
             exact en rfl rfl
theorem subst_Lift_ev {t : Trm} {from_ : Int} {by_ : Int} {r : Trm × Int} (h : subst_Lift t from_ by_ = some r) : Ev Tryd.prog GL 14 [.agg ((dTm t).map V.d), .d (.int .i64 from_), .d (.int .i64 by_)] [] (.tup [.agg ((dTm r.1).map V.d), .d (.int .i64 r.2)]) [] := by
  refine evb pg Tryd.func14 rfl (by kernel_rfl) 33 [.cell 6 34, .tmp 7] rfl rfl rfl (fun E ι0 => ?_)
  refine rg pg ?_
  refine sq ?_
  refine rg pg ?_
  obtain ⟨r1, h2, h⟩ := bndB h
  refine callW0 (terms_Check_ev h2) rfl ?_
  refine rg pg ?_
  refine cd h rfl (fun h hb3 => ?_) (fun h hb3 => ?_)
  ·refine rg pg ?_
   refine rt ?_
   obtain rfl := Option.some.inj h
   exact en rfl rfl
  ·refine sk ?_
   refine sq ?_
   refine rg pg ?_
   obtain ⟨r4, h5, h⟩ := bndB h
   refine callW0 (subst_within_ev h5) rfl ?_
   refine gwF h (fun h hb6 => ?_) (fun h hb6 => ?_)
   ·refine gf rfl ?_
    refine gf rfl ?_
    refine gf rfl ?_
    refine gf rfl ?_
    refine gf rfl ?_
    refine cdT rfl ?_
    refine rg pg ?_
    refine rt ?_
    obtain rfl := Option.some.inj h
    exact en rfl rfl
   ·refine gl rfl ?_
    obtain ⟨r7, h8, h⟩ := bndB h
    refine callW0 (subst_within_ev h8) rfl ?_
    refine gl rfl ?_
    refine gwF h (fun h hb9 => ?_) (fun h hb9 => ?_)
    ·refine gf rfl ?_
     refine gf rfl ?_
     refine cdT rfl ?_
     refine rg pg ?_
     refine rt ?_
     obtain rfl := Option.some.inj h
     exact en rfl rfl
    ·refine gl rfl ?_
     obtain ⟨r10, h11, h⟩ := bndB h
     refine callW0 (tree_Near_ev h11) rfl ?_
     refine gl rfl ?_
     refine cd h rfl (fun h hb12 => ?_) (fun h hb12 => ?_)
     ·refine rg pg ?_
      refine rt ?_
      obtain rfl := Option.some.inj h
      exact en rfl rfl
     ·refine sk ?_
      refine rg pg ?_
      obtain ⟨r13, h14, h⟩ := bndB h
      refine callW0 (tree_Lift_ev h14) rfl ?_
      refine rt ?_
      obtain rfl := Option.some.inj h
      exact en rfl rfl
theorem subst_Lower_ev {t : Trm} {at_ : Int} {r : Trm × Int} (h : subst_Lower t at_ = some r) : Ev Tryd.prog GL 18 [.agg ((dTm t).map V.d), .d (.int .i64 at_)] [] (.tup [.agg ((dTm r.1).map V.d), .d (.int .i64 r.2)]) [] := by
  refine evb pg Tryd.func18 rfl (by kernel_rfl) 26 [.cell 4 34, .tmp 5] rfl rfl rfl (fun E ι0 => ?_)
  refine rg pg ?_
  refine sq ?_
  refine rg pg ?_
  obtain ⟨r1, h2, h⟩ := bndB h
  refine callW0 (terms_Check_ev h2) rfl ?_
  refine rg pg ?_
  refine cd h rfl (fun h hb3 => ?_) (fun h hb3 => ?_)
  ·refine rg pg ?_
   refine rt ?_
   obtain rfl := Option.some.inj h
   exact en rfl rfl
  ·refine sk ?_
   refine sq ?_
   refine rg pg ?_
   obtain ⟨r4, h5, h⟩ := bndB h
   refine callW0 (subst_within_ev h5) rfl ?_
   refine cd h rfl (fun h hb6 => ?_) (fun h hb6 => ?_)
   ·refine rg pg ?_
    refine rt ?_
    obtain rfl := Option.some.inj h
    exact en rfl rfl
   ·refine sk ?_
    refine sq ?_
    refine rg pg ?_
    obtain ⟨r7, h8, h⟩ := bndB h
    refine callW0 (tree_Count_ev h8) rfl ?_
    refine cd h rfl (fun h hb9 => ?_) (fun h hb9 => ?_)
    ·refine rg pg ?_
     refine rt ?_
     obtain rfl := Option.some.inj h
     exact en rfl rfl
    ·refine sk ?_
     refine rg pg ?_
     obtain ⟨r10, h11, h⟩ := bndB h
     refine callW0 (tree_Put_ev h11) rfl ?_
     refine rt ?_
     obtain rfl := Option.some.inj h
     exact en rfl rfl
theorem law03_SubstLifts_ev {t : List Int} {from_ : Int} {by_ : Int} {more : Int} {r : Bool} (h : law03_SubstLifts t from_ by_ more = some r) : Ev Tryd.prog GL 5 [.d (.slice (dInts t)), .d (.int .u8 from_), .d (.int .u8 by_), .d (.int .u8 more)] [] (.d (.bool r)) [] := by
  refine evb pg Tryd.func5 rfl (by kernel_rfl) 165 [.tmp 8] rfl rfl rfl (fun E ι0 => ?_)
  refine rg pg ?_
  refine sq ?_
  refine rg pg ?_
  obtain ⟨r1, h2, h⟩ := bndB h
  refine callW0 (law03_sane_ev h2) rfl ?_
  refine cd h rfl (fun h hb3 => ?_) (fun h hb3 => ?_)
  ·refine rg pg ?_
   refine rt ?_
   obtain rfl := Option.some.inj h
   exact en rfl rfl
  ·refine sk ?_
   refine sq ?_
   refine rg pg ?_
   obtain ⟨r4, h5, h⟩ := bndB h
   refine callW0 (make_Few_ev h5) rfl ?_
   refine cd h rfl (fun h hb6 => ?_) (fun h hb6 => ?_)
   ·refine rg pg ?_
    refine rt ?_
    obtain rfl := Option.some.inj h
    exact en rfl rfl
   ·refine sk ?_
    refine rg pg ?_
    obtain ⟨r7, h8, h⟩ := bndB h
    refine callW [(5, 10036)] (make_New_ev h8) rfl rfl rfl rfl rfl ?_
    refine rg pg ?_
    obtain ⟨r9, h10, h⟩ := bndB h
    refine callW [(1000, 10036)] (make_Context_6f7_ev h10) rfl rfl rfl rfl rfl ?_
    refine rg pg ?_
    obtain ⟨r11, h12, h⟩ := bndB h
    refine callW [(1000, 10036)] (make_Type_eb1_ev h12) rfl rfl rfl rfl rfl ?_
    obtain ⟨r13, h14, h⟩ := bndB h
    refine callW [(1000, 10036)] (make_Term_02b_ev h14) rfl rfl rfl rfl rfl ?_
    refine rg pg ?_
    refine Ask.mk (by decide) ?_
    refine Ask.mk (by decide) ?_
    refine Ask.mk (by decide) ?_
    refine rg pg ?_
    obtain ⟨r15, h16, h⟩ := bndB h
    refine callW0 (subst_Lift_ev h16) rfl ?_
    refine rg pg ?_
    obtain ⟨r17, h18, h⟩ := bndB h
    refine callW0 (subst_Lower_ev h18) rfl ?_
    refine rg pg ?_
    obtain ⟨r19, h20, h⟩ := bndB h
    refine callW0 (subst_Lift_ev h20) rfl ?_
    refine rg pg ?_
    obtain ⟨r21, h22, h⟩ := bndB h
    refine callW0 (subst_Lift_ev h22) rfl ?_
    refine rg pg ?_
    obtain ⟨r23, h24, h⟩ := bndB h
    refine callW0 (subst_Lift_ev h24) rfl ?_
    refine rg pg ?_
    obtain ⟨r25, h26, h⟩ := bndB h
    refine callW0 (subst_Uses_ev h26) rfl ?_
    refine rg pg ?_
    obtain ⟨r27, h28, h⟩ := bndB h
    refine callW0 (subst_Uses_ev h28) rfl ?_
    refine sq ?_
    refine rg pg ?_
    refine gwF h (fun h hb29 => ?_) (fun h hb29 => ?_)
    ·refine gf rfl ?_
     refine gf rfl ?_
     refine gf rfl ?_
     refine gf rfl ?_
     refine gf rfl ?_
     refine gf rfl ?_
     refine gf rfl ?_
     refine gf rfl ?_
     refine gf rfl ?_
     refine gf rfl ?_
     refine gf rfl ?_
     refine gf rfl ?_
     refine gf rfl ?_
     refine gf rfl ?_
     refine gf rfl ?_
     refine gf rfl ?_
     refine gf rfl ?_
     refine gf rfl ?_
     refine gf rfl ?_
     refine gf rfl ?_
     refine gf rfl ?_
     refine gf rfl ?_
     refine gf rfl ?_
     refine gf rfl ?_
     refine cdT rfl ?_
     refine rg pg ?_
     refine rt ?_
     obtain rfl := Option.some.inj h
     exact en rfl rfl
    ·refine gl rfl ?_
     refine gwF h (fun h hb30 => ?_) (fun h hb30 => ?_)
     ·refine gf rfl ?_
      refine gf rfl ?_
      refine gf rfl ?_
      refine gf rfl ?_
      refine gf rfl ?_
      refine gf rfl ?_
      refine gf rfl ?_
      refine gf rfl ?_
      refine gf rfl ?_
      refine gf rfl ?_
      refine gf rfl ?_
      refine gf rfl ?_
      refine gf rfl ?_
      refine gf rfl ?_
      refine gf rfl ?_
      refine gf rfl ?_
      refine gf rfl ?_
      refine gf rfl ?_
      refine gf rfl ?_
      refine gf rfl ?_
      refine gf rfl ?_
      refine gf rfl ?_
      refine cdT rfl ?_
      refine rg pg ?_
      refine rt ?_
      obtain rfl := Option.some.inj h
      exact en rfl rfl
     ·refine gl rfl ?_
      refine gwF h (fun h hb31 => ?_) (fun h hb31 => ?_)
      ·refine gf rfl ?_
       refine gf rfl ?_
       refine gf rfl ?_
       refine gf rfl ?_
       refine gf rfl ?_
       refine gf rfl ?_
       refine gf rfl ?_
       refine gf rfl ?_
       refine gf rfl ?_
       refine gf rfl ?_
       refine gf rfl ?_
       refine gf rfl ?_
       refine gf rfl ?_
       refine gf rfl ?_
       refine gf rfl ?_
       refine gf rfl ?_
       refine gf rfl ?_
       refine gf rfl ?_
       refine gf rfl ?_
       refine gf rfl ?_
       refine cdT rfl ?_
       refine rg pg ?_
       refine rt ?_
       obtain rfl := Option.some.inj h
       exact en rfl rfl
      ·refine gl rfl ?_
       refine gwF h (fun h hb32 => ?_) (fun h hb32 => ?_)
       ·refine gf rfl ?_
        refine gf rfl ?_
        refine gf rfl ?_
        refine gf rfl ?_
        refine gf rfl ?_
        refine gf rfl ?_
        refine gf rfl ?_
        refine gf rfl ?_
        refine gf rfl ?_
        refine gf rfl ?_
        refine gf rfl ?_
        refine gf rfl ?_
        refine gf rfl ?_
        refine gf rfl ?_
        refine gf rfl ?_
        refine gf rfl ?_
        refine gf rfl ?_
        refine gf rfl ?_
        refine cdT rfl ?_
        refine rg pg ?_
        refine rt ?_
        obtain rfl := Option.some.inj h
        exact en rfl rfl
       ·refine gl rfl ?_
        refine gwF h (fun h hb33 => ?_) (fun h hb33 => ?_)
        ·refine gf rfl ?_
         refine gf rfl ?_
         refine gf rfl ?_
         refine gf rfl ?_
         refine gf rfl ?_
         refine gf rfl ?_
         refine gf rfl ?_
         refine gf rfl ?_
         refine gf rfl ?_
         refine gf rfl ?_
         refine gf rfl ?_
         refine gf rfl ?_
         refine gf rfl ?_
         refine gf rfl ?_
         refine gf rfl ?_
         refine gf rfl ?_
         refine cdT rfl ?_
         refine rg pg ?_
         refine rt ?_
         obtain rfl := Option.some.inj h
         exact en rfl rfl
        ·refine gl rfl ?_
         refine gwF h (fun h hb34 => ?_) (fun h hb34 => ?_)
         ·refine gf rfl ?_
          refine gf rfl ?_
          refine gf rfl ?_
          refine gf rfl ?_
          refine gf rfl ?_
          refine gf rfl ?_
          refine gf rfl ?_
          refine gf rfl ?_
          refine gf rfl ?_
          refine gf rfl ?_
          refine gf rfl ?_
          refine gf rfl ?_
          refine gf rfl ?_
          refine gf rfl ?_
          refine cdT rfl ?_
          refine rg pg ?_
          refine rt ?_
          obtain rfl := Option.some.inj h
          exact en rfl rfl
         ·refine gl rfl ?_
          refine gwF h (fun h hb35 => ?_) (fun h hb35 => ?_)
          ·refine gf rfl ?_
           refine gf rfl ?_
           refine gf rfl ?_
           refine gf rfl ?_
           refine gf rfl ?_
           refine gf rfl ?_
           refine gf rfl ?_
           refine gf rfl ?_
           refine gf rfl ?_
           refine gf rfl ?_
           refine gf rfl ?_
           refine gf rfl ?_
           refine cdT rfl ?_
           refine rg pg ?_
           refine rt ?_
           obtain rfl := Option.some.inj h
           exact en rfl rfl
          ·refine gl rfl ?_
           refine gl rfl ?_
           obtain ⟨r36, h37, h⟩ := bndB h
           refine callW0 (ref02_Same_ev h37) rfl ?_
           refine gl rfl ?_
           refine gwF h (fun h hb38 => ?_) (fun h hb38 => ?_)
           ·refine gf rfl ?_
            refine gf rfl ?_
            refine gf rfl ?_
            refine gf rfl ?_
            refine gf rfl ?_
            refine gf rfl ?_
            refine gf rfl ?_
            refine gf rfl ?_
            refine cdT rfl ?_
            refine rg pg ?_
            refine rt ?_
            obtain rfl := Option.some.inj h
            exact en rfl rfl
           ·refine gl rfl ?_
            refine gl rfl ?_
            obtain ⟨r39, h40, h⟩ := bndB h
            refine callW0 (ref02_Same_ev h40) rfl ?_
            refine gl rfl ?_
            refine gwF h (fun h hb41 => ?_) (fun h hb41 => ?_)
            ·refine gf rfl ?_
             refine gf rfl ?_
             refine gf rfl ?_
             refine gf rfl ?_
             refine cdT rfl ?_
             refine rg pg ?_
             refine rt ?_
             obtain rfl := Option.some.inj h
             exact en rfl rfl
            ·refine gl rfl ?_
             refine LenW.mk (dInts_len _) ?_
             refine gl rfl ?_
             refine gl rfl ?_
             refine LenW.mk (dInts_len _) ?_
             refine gl rfl ?_
             refine cd h rfl (fun h hb42 => ?_) (fun h hb42 => ?_)
             ·refine rg pg ?_
              refine rt ?_
              obtain rfl := Option.some.inj h
              exact en rfl rfl
             ·refine sk ?_
              refine sq ?_
              refine rg pg ?_
              refine LenW.mk (dInts_len _) ?_
              refine rangeK (X := Unit) pg r25.1 _ rfl (fun x47 => [(12, .d (.int .i64 (w64 (Int.tmod from_ 5)))), (13, .d (.int .i64 (w64 (Int.tmod by_ 5)))), (14, .d (.int .i64 (w64 (Int.tmod more 5)))), (26, .d (.slice (dInts r27.1))), (143, .d (.slice (dInts r25.1)))]) (fun x47 => []) [] h rfl rfl rfl rfl (fun _ => ⟨rfl, rfl⟩) 91 rfl (dInts_len _) (fun k44 i45 a43 x47 _ g46 h => ?_) (fun x47 h => ?_)
              ·refine rg pg ?_
               refine IdxW.mk (Int.natCast_nonneg _) (dInts_get g46) rfl ?_
               refine join (fun x57 : Int => ⟨[(12, .d (.int .i64 (w64 (Int.tmod from_ 5)))), (13, .d (.int .i64 (w64 (Int.tmod by_ 5)))), (14, .d (.int .i64 (w64 (Int.tmod more 5)))), (26, .d (.slice (dInts r27.1))), (28, .d (.int .i64 (i45 : Int))), (29, .d (.int .i64 x57)), (143, .d (.slice (dInts r25.1))), (144, .d (.int .i64 ((r25.1.length : Nat) : Int))), (145, .d (.int .i64 (i45 : Int)))], [], []⟩) (fun x57 => law03_SubstLifts_k1 r27 i45 k44 x57) r ?_ (fun x57 h => ?_)
               ·refine rg pg ?_
                refine cd h rfl (fun h hb55 => ?_) (fun h hb55 => ?_)
                ·refine rl pg ?_
                 exact jt (w64 (a43 + (w64 ((w64 (Int.tmod by_ 5)) + (w64 (Int.tmod more 5)))))) h rfl rfl rfl
                ·refine sk ?_
                 exact jt a43 h rfl rfl rfl
               ·refine rg pg ?_
                obtain ⟨a58, p59, g60, h⟩ := idxB h
                refine IdxW.mk p59 (dInts_get g60) rfl ?_
                refine cd h rfl (fun h hb61 => ?_) (fun h hb61 => ?_)
                ·refine rg pg ?_
                 refine rt ?_
                 obtain rfl := Option.some.inj h
                 exact en rfl rfl
                ·refine sk ?_
                 exact jt () h rfl rfl rfl
              ·refine rg pg ?_
               refine rt ?_
               obtain rfl := Option.some.inj h
               exact en rfl rfl
end Go.AM

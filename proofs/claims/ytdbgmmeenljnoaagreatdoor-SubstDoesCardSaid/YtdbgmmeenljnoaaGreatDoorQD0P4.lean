/-
  The Go functions reckon what the printed ones do.
-/
import Derived.Test.YtdbgmmeenljnoaaGreatDoorQD0P3
set_option linter.unusedVariables false
set_option linter.unusedSimpArgs false
set_option maxRecDepth 20000
set_option maxHeartbeats 40000000
namespace Go.AM
open Go Go.RowKit Go.Proofs
theorem law03_SubstDoes_ev {t : List Int} {a : Trm} {b : Trm} {from_ : Int} {by_ : Int} {r : Bool} (h : law03_SubstDoes t a b from_ by_ = some r) : Ev Tryz.prog GL 3 [.d (.slice (dInts t)), .agg ((dTm a).map V.d), .agg ((dTm b).map V.d), .d (.int .i64 from_), .d (.int .i64 by_)] [] (.d (.bool r)) [] := by
  refine evb pg Tryz.func3 rfl (by kernel_rfl) 216 [.tmp 10] rfl rfl rfl (fun E ι0 => ?_)
  refine rg pg ?_
  refine sq ?_
  refine rg pg ?_
  obtain ⟨r1, h2, h⟩ := bndB h
  refine callW0 (law03_sane_ev h2) rfl ?_
  refine cd h rfl (fun h hb3 => ?_) (fun h hb3 => ?_)
  ·refine rg pg ?_
   refine rt ?_
   obtain rfl := Option.some.inj h
   exact en rfl rfl
  ·as_aux_lemma =>
   refine sk ?_
   refine sq ?_
   refine rg pg ?_
   obtain ⟨r4, h5, h⟩ := bndB h
   refine callW0 (make_Few_ev h5) rfl ?_
   refine gwF h (fun h hb6 => ?_) (fun h hb6 => ?_)
   ·refine gf rfl ?_
    refine gf rfl ?_
    refine gf rfl ?_
    refine gf rfl ?_
    refine cdT rfl ?_
    refine rg pg ?_
    refine rt ?_
    obtain rfl := Option.some.inj h
    exact en rfl rfl
   ·as_aux_lemma =>
    refine gl rfl ?_
    refine gl rfl ?_
    refine Ask.mk ⟨rfl, rfl⟩ (BsW.mk (dTms_map [a, b]).symm (dTms_sz _) ?_)
    refine gl rfl ?_
    obtain ⟨r7, h8, h⟩ := bndB h
    refine callW0 (law03_few_ev h8) rfl ?_
    refine gl rfl ?_
    refine cd h rfl (fun h hb9 => ?_) (fun h hb9 => ?_)
    ·refine rg pg ?_
     refine rt ?_
     obtain rfl := Option.some.inj h
     exact en rfl rfl
    ·as_aux_lemma =>
     refine sk ?_
     refine rg pg ?_
     obtain ⟨r10, h11, h⟩ := bndB h
     refine callW [(5, 10054)] (make_New_ev h11) rfl rfl rfl rfl rfl ?_
     refine rg pg ?_
     obtain ⟨r12, h13, h⟩ := bndB h
     refine callW [(1000, 10054)] (make_Context_6f7_ev h13) rfl rfl rfl rfl rfl ?_
     refine rg pg ?_
     obtain ⟨r14, h15, h⟩ := bndB h
     refine callW [(1000, 10054)] (make_Type_eb1_ev h15) rfl rfl rfl rfl rfl ?_
     obtain ⟨r16, h17, h⟩ := bndB h
     refine callW [(1000, 10054)] (make_Term_02b_ev h17) rfl rfl rfl rfl rfl ?_
     obtain ⟨r18, h19, h⟩ := bndB h
     refine callW [(1000, 10054)] (make_Type_eb1_ev h19) rfl rfl rfl rfl rfl ?_
     obtain ⟨r20, h21, h⟩ := bndB h
     refine callW [(1000, 10054)] (make_Term_02b_ev h21) rfl rfl rfl rfl rfl ?_
     refine sq ?_
     refine rg pg ?_
     refine Ask.mk ⟨rfl, rfl⟩ (BsW.mk (dTms_map [a, r16.1]).symm (dTms_sz _) ?_)
     refine LenW.mk (dTms_len _) ?_
     refine rangeK (X := Unit) pg [a, r16.1] _ rfl (fun x26 => [(3, .d (.int .i64 from_)), (4, .d (.int .i64 by_)), (7, .ptr 7 0), (14, .ptr 14 0), (69, .full (dTms [a, r16.1]))]) (fun x26 => [(7, some (.cells ((dTm b).map V.d) 28)), (14, some (.cells ((dTm r20.1).map V.d) 28))]) [7, 14] h rfl rfl rfl rfl (fun _ => ⟨rfl, rfl⟩) 69 rfl (dTms_len _) (fun k23 i24 a22 x26 _ g25 h => ?_) (fun x26 h => ?_)
     ·as_aux_lemma =>
      refine rg pg ?_
      refine IdxW.mk (Int.natCast_nonneg _) (dTms_get g25) rfl ?_
      refine rg pg ?_
      obtain ⟨r124, h125, h⟩ := bndB h
      refine callW0 (subst_Uses_ev h125) rfl ?_
      refine rg pg ?_
      obtain ⟨r126, h127, h⟩ := bndB h
      refine callW0 (ref03_Uses_ev h127) rfl ?_
      refine rg pg ?_
      obtain ⟨r128, h129, h⟩ := bndB h
      refine callW0 (subst_Closed_ev h129) rfl ?_
      refine rg pg ?_
      obtain ⟨r130, h131, h⟩ := bndB h
      refine callW0 (ref03_Closed_ev h131) rfl ?_
      refine sq ?_
      refine rg pg ?_
      refine gwF h (fun h hb132 => ?_) (fun h hb132 => ?_)
      ·refine gf rfl ?_
       refine gf rfl ?_
       refine gf rfl ?_
       refine gf rfl ?_
       refine gf rfl ?_
       refine gf rfl ?_
       refine gf rfl ?_
       refine gf rfl ?_
       refine gf rfl ?_
       refine cdT rfl ?_
       refine rg pg ?_
       refine rt ?_
       obtain rfl := Option.some.inj h
       exact en rfl rfl
      ·as_aux_lemma =>
       refine gl rfl ?_
       refine gl rfl ?_
       obtain ⟨r133, h134, h⟩ := bndB h
       refine callW0 (law03_ints_ev h134) rfl ?_
       refine gl rfl ?_
       refine gwF h (fun h hb135 => ?_) (fun h hb135 => ?_)
       ·refine gf rfl ?_
        refine gf rfl ?_
        refine gf rfl ?_
        refine gf rfl ?_
        refine gf rfl ?_
        refine cdT rfl ?_
        refine rg pg ?_
        refine rt ?_
        obtain rfl := Option.some.inj h
        exact en rfl rfl
       ·as_aux_lemma =>
        refine gl rfl ?_
        refine gl rfl ?_
        refine gwF h (fun h hb136 => ?_) (fun h hb136 => ?_)
        ·refine gf rfl ?_
         refine gf rfl ?_
         refine cdT rfl ?_
         refine rg pg ?_
         refine rt ?_
         obtain rfl := Option.some.inj h
         exact en rfl rfl
        ·as_aux_lemma =>
         refine gl rfl ?_
         refine gl rfl ?_
         refine cd h rfl (fun h hb137 => ?_) (fun h hb137 => ?_)
         ·refine rg pg ?_
          refine rt ?_
          obtain rfl := Option.some.inj h
          exact en rfl rfl
         ·as_aux_lemma =>
          refine sk ?_
          refine rg pg ?_
          obtain ⟨r138, h139, h⟩ := bndB h
          refine callW0 (make_Mod_ev h139) rfl ?_
          obtain ⟨r140, h141, h⟩ := bndB h
          refine callW0 (make_Mod_ev h141) rfl ?_
          refine Ask.mk ⟨rfl, rfl⟩ (BsW.mk (dS_2_int_map [(S_2_int.mk from_ by_), (S_2_int.mk r138 r140)]).symm (dS_2_int_sz _) ?_)
          refine LenW.mk (dS_2_int_len _) ?_
          refine rangeK (X := Unit) pg [(S_2_int.mk from_ by_), (S_2_int.mk r138 r140)] _ rfl (fun x146 => [(3, .d (.int .i64 from_)), (4, .d (.int .i64 by_)), (7, .ptr 7 0), (14, .ptr 14 0), (16, .ptr 16 0), (69, .full (dTms [a, r16.1])), (70, .d (.int .i64 (([a, r16.1].length : Nat) : Int))), (71, .d (.int .i64 (i24 : Int))), (122, .full (dS_2_int [(S_2_int.mk from_ by_), (S_2_int.mk r138 r140)]))]) (fun x146 => [(7, some (.cells ((dTm b).map V.d) 28)), (14, some (.cells ((dTm r20.1).map V.d) 28)), (16, some (.cells ((dTm a22).map V.d) 28))]) [7, 14, 16] h rfl rfl rfl rfl (fun _ => ⟨rfl, rfl⟩) 122 rfl (dS_2_int_len _) (fun k143 i144 a142 x146 _ g145 h => ?_) (fun x146 h => ?_)
          ·as_aux_lemma =>
           refine rg pg ?_
           refine IdxW.mk (Int.natCast_nonneg _) (dS_2_int_get g145) rfl ?_
           refine rg pg ?_
           refine PIdxW.mk (m := 0) rfl (by decide) ?_
           refine PIdxW.mk (m := 1) rfl (by decide) ?_
           obtain ⟨r184, h185, h⟩ := bndB h
           refine callW0 (subst_Lift_ev h185) rfl ?_
           refine rg pg ?_
           refine PIdxW.mk (m := 0) rfl (by decide) ?_
           refine PIdxW.mk (m := 1) rfl (by decide) ?_
           obtain ⟨r186, h187, h⟩ := bndB h
           refine callW0 (ref03_Lift_ev h187) rfl ?_
           refine rg pg ?_
           refine PIdxW.mk (m := 0) rfl (by decide) ?_
           obtain ⟨r188, h189, h⟩ := bndB h
           refine callW0 (subst_Lower_ev h189) rfl ?_
           refine rg pg ?_
           refine PIdxW.mk (m := 0) rfl (by decide) ?_
           obtain ⟨r190, h191, h⟩ := bndB h
           refine callW0 (ref03_Lower_ev h191) rfl ?_
           refine sq ?_
           refine rg pg ?_
           refine gwF h (fun h hb192 => ?_) (fun h hb192 => ?_)
           ·refine gf rfl ?_
            refine gf rfl ?_
            refine gf rfl ?_
            refine gf rfl ?_
            refine gf rfl ?_
            refine gf rfl ?_
            refine gf rfl ?_
            refine gf rfl ?_
            refine gf rfl ?_
            refine gf rfl ?_
            refine cdT rfl ?_
            refine rg pg ?_
            refine rt ?_
            obtain rfl := Option.some.inj h
            exact en rfl rfl
           ·as_aux_lemma =>
            refine gl rfl ?_
            refine gl rfl ?_
            obtain ⟨r193, h194, h⟩ := bndB h
            refine callW0 (ref02_Same_ev h194) rfl ?_
            refine gl rfl ?_
            refine gwF h (fun h hb195 => ?_) (fun h hb195 => ?_)
            ·refine gf rfl ?_
             refine gf rfl ?_
             refine gf rfl ?_
             refine gf rfl ?_
             refine gf rfl ?_
             refine gf rfl ?_
             refine cdT rfl ?_
             refine rg pg ?_
             refine rt ?_
             obtain rfl := Option.some.inj h
             exact en rfl rfl
            ·as_aux_lemma =>
             refine gl rfl ?_
             refine gl rfl ?_
             refine gwF h (fun h hb196 => ?_) (fun h hb196 => ?_)
             ·refine gf rfl ?_
              refine gf rfl ?_
              refine gf rfl ?_
              refine cdT rfl ?_
              refine rg pg ?_
              refine rt ?_
              obtain rfl := Option.some.inj h
              exact en rfl rfl
             ·as_aux_lemma =>
              refine gl rfl ?_
              refine gl rfl ?_
              obtain ⟨r197, h198, h⟩ := bndB h
              refine callW0 (ref02_Same_ev h198) rfl ?_
              refine gl rfl ?_
              refine cd h rfl (fun h hb199 => ?_) (fun h hb199 => ?_)
              ·refine rg pg ?_
               refine rt ?_
               obtain rfl := Option.some.inj h
               exact en rfl rfl
              ·as_aux_lemma =>
               refine sk ?_
               refine rg pg ?_
               refine Ask.mk ⟨rfl, rfl⟩ (BsW.mk (dTms_map [b, r20.1]).symm (dTms_sz _) ?_)
               refine LenW.mk (dTms_len _) ?_
               refine rangeK (X := Unit) pg [b, r20.1] _ rfl (fun x204 => [(3, .d (.int .i64 from_)), (4, .d (.int .i64 by_)), (7, .ptr 7 0), (14, .ptr 14 0), (16, .ptr 16 0), (26, .ptr 26 0), (69, .full (dTms [a, r16.1])), (70, .d (.int .i64 (([a, r16.1].length : Nat) : Int))), (71, .d (.int .i64 (i24 : Int))), (122, .full (dS_2_int [(S_2_int.mk from_ by_), (S_2_int.mk r138 r140)])), (123, .d (.int .i64 (([(S_2_int.mk from_ by_), (S_2_int.mk r138 r140)].length : Nat) : Int))), (124, .d (.int .i64 (i144 : Int))), (182, .full (dTms [b, r20.1]))]) (fun x204 => [(7, some (.cells ((dTm b).map V.d) 28)), (14, some (.cells ((dTm r20.1).map V.d) 28)), (16, some (.cells ((dTm a22).map V.d) 28)), (26, some (.cells ((cS_2_int a142).map V.d) 43))]) [7, 14, 16, 26] h rfl rfl rfl rfl (fun _ => ⟨rfl, rfl⟩) 182 rfl (dTms_len _) (fun k201 i202 a200 x204 _ g203 h => ?_) (fun x204 h => ?_)
               ·as_aux_lemma =>
                refine rg pg ?_
                refine IdxW.mk (Int.natCast_nonneg _) (dTms_get g203) rfl ?_
                refine rg pg ?_
                refine PIdxW.mk (m := 0) rfl (by decide) ?_
                obtain ⟨r213, h214, h⟩ := bndB h
                refine callW0 (subst_Put_ev h214) rfl ?_
                refine rg pg ?_
                refine PIdxW.mk (m := 0) rfl (by decide) ?_
                obtain ⟨r215, h216, h⟩ := bndB h
                refine callW0 (ref03_Put_ev h216) rfl ?_
                refine rg pg ?_
                refine gwF h (fun h hb217 => ?_) (fun h hb217 => ?_)
                ·refine gf rfl ?_
                 refine gf rfl ?_
                 refine gf rfl ?_
                 refine cdT rfl ?_
                 refine rg pg ?_
                 refine rt ?_
                 obtain rfl := Option.some.inj h
                 exact en rfl rfl
                ·refine gl rfl ?_
                 refine gl rfl ?_
                 obtain ⟨r218, h219, h⟩ := bndB h
                 refine callW0 (ref02_Same_ev h219) rfl ?_
                 refine gl rfl ?_
                 refine cd h rfl (fun h hb220 => ?_) (fun h hb220 => ?_)
                 ·refine rg pg ?_
                  refine rt ?_
                  obtain rfl := Option.some.inj h
                  exact en rfl rfl
                 ·refine sk ?_
                  exact jt () h rfl rfl rfl
               ·exact jt () h rfl rfl rfl
          ·exact jt () h rfl rfl rfl
     ·refine rg pg ?_
      refine rt ?_
      obtain rfl := Option.some.inj h
      exact en rfl rfl
end Go.AM

/-
  Contracts: lifting, lowering and putting; the second forms of types.
-/
import Derived.Test.YtdbgmmeenljnoaaDoorAmP2
set_option linter.unusedVariables false
set_option linter.unusedSimpArgs false
set_option maxRecDepth 20000
namespace Go.AM
open Go Go.RowKit Go.Proofs

theorem terms_Size_ev (t : Trm) (ht : t.big ≤ 1000000) : Ev Tryd.prog GL 35 [vTm t] [] (.tup [.d (.int .i64 (if t.err == 0 then (t.sz : Int) else 0)), .d (.int .i64 t.err)]) [] := by
  refine ev_of_body (N := 8) (ks := []) (ρ0 := [(0, _)]) (σ0 := []) (rs := [.tmp 2, .tmp 3]) Tryd.func35 rfl (by kernel_rfl) rfl rfl rfl rfl rfl rfl rfl rfl rfl rfl (fun E ι0 => ?_)
  refine ac_ts mixed ?_
  refine s_box 1 rfl rfl rfl rfl rfl ?_
  refine t_assign rfl rfl rfl ?_
  refine t_assign rfl rfl rfl ?_
  refine tr_nil ?_
  refine ac_ts mixed ?_
  first | refine t_load ty34 rfl rfl rfl rfl rfl rfl ?_ | refine s_loadWc ty34 rfl rfl rfl rfl ?_ | refine t_loadN (us := [_, _, _, _, _]) ty34 rfl rfl rfl rfl rfl rfl ?_ | refine t_loadNc (us := [_, _, _, _, _]) ty34 rfl rfl rfl rfl rfl ?_
  first | refine s_callF rfl .rfl (CheckTerm_ev t ht) rfl rfl ?_ | refine s_callF rfl (by (repeat' (first | exact VLes.rfl | exact VLes.nil | exact VLe.rfl | refine VLes.cons ?_ ?_ | exact VLe.own | exact VLe.full | exact VLe.nils | refine VLe.agg ?_ | exact VLe.fullE (dTms_one _) | exact VLe.fullE (dTms_two _ _) | exact VLe.fullE (dTms_three _ _ _) | exact VLe.fullE (dTys_one _) | exact VLe.fullE (dTys_two _ _) | exact VLe.fullE (dTys_three _ _ _)))) (CheckTerm_ev t ht) rfl rfl ?_
  refine t_extract rfl rfl rfl rfl ?_
  refine t_extract rfl rfl rfl rfl ?_
  refine t_assign rfl rfl rfl ?_
  refine t_assign rfl rfl rfl ?_
  refine tr_nil ?_
  refine ac_ret ?_
  refine ⟨.inr rfl, _, ⟨_, _, rfl, rfl, ⟨_, _, rfl, rfl, rfl⟩⟩, ?_, ?_⟩
  · (repeat' (first | exact VLe.rfl | exact VLes.rfl | exact VLes.nil | refine VLes.cons ?_ ?_ | refine VLe.agg ?_ | refine VLe.tup ?_ | exact VLe.own | exact VLe.full | exact VLe.nils | exact VLe.any | exact VLe.clo | exact VLe.fn | refine VLe.intE ?_ | refine VLe.boolE ?_ | refine VLe.sliceE ?_ | refine VLe.ownE ?_ | refine VLe.ownO ?_ | refine VLe.fullE ?_ | refine VLe.nilsE ?_))
  · (intro l o h; cases h)
theorem terms_Check_ev (t : Trm) (ht : t.big ≤ 1000000) : Ev Tryd.prog GL 42 [vTm t] [] (.d (.int .i64 t.err)) [] := by
  refine ev_of_body (N := 11) (ks := []) (ρ0 := [(0, _)]) (σ0 := []) (rs := [.tmp 2]) Tryd.func42 rfl (by kernel_rfl) rfl rfl rfl rfl rfl rfl rfl rfl rfl rfl (fun E ι0 => ?_)
  refine ac_ts mixed ?_
  refine s_box 1 rfl rfl rfl rfl rfl ?_
  refine t_assign rfl rfl rfl ?_
  refine tr_nil ?_
  refine ac_ts mixed ?_
  first | refine t_load ty34 rfl rfl rfl rfl rfl rfl ?_ | refine s_loadWc ty34 rfl rfl rfl rfl ?_ | refine t_loadN (us := [_, _, _, _, _]) ty34 rfl rfl rfl rfl rfl rfl ?_ | refine t_loadNc (us := [_, _, _, _, _]) ty34 rfl rfl rfl rfl rfl ?_
  first | refine s_callF rfl .rfl (CheckTerm_ev t ht) rfl rfl ?_ | refine s_callF rfl (by (repeat' (first | exact VLes.rfl | exact VLes.nil | exact VLe.rfl | refine VLes.cons ?_ ?_ | exact VLe.own | exact VLe.full | exact VLe.nils | refine VLe.agg ?_ | exact VLe.fullE (dTms_one _) | exact VLe.fullE (dTms_two _ _) | exact VLe.fullE (dTms_three _ _ _) | exact VLe.fullE (dTys_one _) | exact VLe.fullE (dTys_two _ _) | exact VLe.fullE (dTys_three _ _ _)))) (CheckTerm_ev t ht) rfl rfl ?_
  refine t_move rfl rfl rfl ?_
  refine t_extract rfl rfl rfl rfl ?_
  refine t_extract rfl rfl rfl rfl ?_
  refine t_assign rfl rfl rfl ?_
  refine t_assign rfl rfl rfl ?_
  refine tr_nil ?_
  refine ac_ts mixed ?_
  refine t_move rfl rfl rfl ?_
  refine t_assign rfl rfl rfl ?_
  refine tr_nil ?_
  refine ac_ret ?_
  refine ⟨.inr rfl, _, ⟨_, _, rfl, rfl, rfl⟩, ?_, ?_⟩
  · (repeat' (first | exact VLe.rfl | exact VLes.rfl | exact VLes.nil | refine VLes.cons ?_ ?_ | refine VLe.agg ?_ | refine VLe.tup ?_ | exact VLe.own | exact VLe.full | exact VLe.nils | exact VLe.any | exact VLe.clo | exact VLe.fn | refine VLe.intE ?_ | refine VLe.boolE ?_ | refine VLe.sliceE ?_ | refine VLe.ownE ?_ | refine VLe.ownO ?_ | refine VLe.fullE ?_ | refine VLe.nilsE ?_))
  · (intro l o h; cases h)
theorem within_ev (n : Int) : Ev Tryd.prog GL 36 [.d (.int .i64 n)] [] (.d (.bool (within n))) [] := by
  refine ev_of_body (N := 9) (ks := []) (ρ0 := [(0, _)]) (σ0 := []) (rs := [.tmp 2]) Tryd.func36 rfl (by kernel_rfl) rfl rfl rfl rfl rfl rfl rfl rfl rfl rfl (fun E ι0 => ?_)
  refine ac_ts mixed ?_
  refine t_assign rfl rfl rfl ?_
  refine tr_nil ?_
  refine ac_ts mixed ?_
  refine t_move rfl rfl rfl ?_
  refine t_bin rfl rfl .geq rfl rfl ?_
  refine t_move rfl rfl rfl ?_
  refine tr_bool (fun h5 => ?_) (fun h5 => ?_)
  · refine t_move rfl ⟨_, rfl, .inl ⟨_, rfl, rfl⟩⟩ rfl ?_
    refine t_bin rfl rfl .leq ⟨_, rfl, .inl ⟨_, rfl, rfl⟩⟩ rfl ?_
    refine t_pick_t rfl rfl rfl rfl rfl ?_
    refine t_assign rfl rfl rfl ?_
    refine tr_nil ?_
    refine ac_ret ?_
    refine ⟨.inr rfl, _, ⟨_, _, rfl, rfl, rfl⟩, ?_, ?_⟩
    · simp only [within, h5, Bool.true_and, Bool.false_and]
      exact VLe.rfl
    · (intro l o h; cases h)
  · refine t_skip ⟨_, rfl, .inl ⟨_, rfl, rfl⟩⟩ rfl ?_
    refine t_skip ⟨_, rfl, .inl ⟨_, rfl, rfl⟩⟩ rfl ?_
    refine t_pick_f rfl rfl rfl rfl rfl ?_
    refine t_assign rfl rfl rfl ?_
    refine tr_nil ?_
    refine ac_ret ?_
    refine ⟨.inr rfl, _, ⟨_, _, rfl, rfl, rfl⟩, ?_, ?_⟩
    · simp only [within, h5, Bool.true_and, Bool.false_and]
      exact VLe.rfl
    · (intro l o h; cases h)
theorem subst_Lift_ev (t : Trm) (ht : t.big ≤ 1000000) (a y : Int) : Ev Tryd.prog GL 14 [vTm t, .d (.int .i64 a), .d (.int .i64 y)] [] (.tup [vTm (if liftE t a y == 0 then t.lift a y else .zero), .d (.int .i64 (liftE t a y))]) [] := by
  -- live at cond 0: t1, t2, t3(ptr), t6(ptr)
  -- live at cond 1: t1, t2, t3(ptr), t6(ptr)
  refine ev_of_body (N := 33) (ks := []) (ρ0 := [(0, _), (1, _), (2, _)]) (σ0 := []) (rs := [.cell 6 34, .tmp 7]) Tryd.func14 rfl (by kernel_rfl) rfl rfl rfl rfl rfl rfl rfl rfl rfl rfl (fun E ι0 => ?_)
  refine ac_ts mixed ?_
  refine s_box 3 rfl rfl rfl rfl rfl ?_
  refine s_alloc 6 zer34 rfl rfl rfl rfl ?_
  refine t_assign rfl rfl rfl ?_
  refine tr_nil ?_
  refine ac_seq ?_
  refine ac_ts mixed ?_
  first | refine t_load ty34 rfl rfl rfl rfl rfl rfl ?_ | refine s_loadWc ty34 rfl rfl rfl rfl ?_ | refine t_loadN (us := [_, _, _, _, _]) ty34 rfl rfl rfl rfl rfl rfl ?_ | refine t_loadNc (us := [_, _, _, _, _]) ty34 rfl rfl rfl rfl rfl ?_
  first | refine s_callF rfl .rfl (terms_Check_ev t ht) rfl rfl ?_ | refine s_callF rfl (by (repeat' (first | exact VLes.rfl | exact VLes.nil | exact VLe.rfl | refine VLes.cons ?_ ?_ | exact VLe.own | exact VLe.full | exact VLe.nils | refine VLe.agg ?_ | exact VLe.fullE (dTms_one _) | exact VLe.fullE (dTms_two _ _) | exact VLe.fullE (dTms_three _ _ _) | exact VLe.fullE (dTys_one _) | exact VLe.fullE (dTys_two _ _) | exact VLe.fullE (dTys_three _ _ _)))) (terms_Check_ev t ht) rfl rfl ?_
  refine t_assign rfl rfl rfl ?_
  refine tr_nil ?_
  refine ac_ts mixed ?_
  refine t_move rfl rfl rfl ?_
  refine t_bin rfl rfl .neq rfl rfl ?_
  refine tr_nil ?_
  refine ac_bool (fun hb0 => ?_) (fun hb0 => ?_)
  · refine ac_cond rfl (fun _ => ?_) (fun hb => by cases hb)
    refine ac_ts mixed ?_
    refine s_build (res := [_, _, _, _, _]) zer34 plc34 rfl rfl rfl rfl rfl ?_
    refine t_move rfl rfl rfl ?_
    first | refine s_storeW ty34 rfl rfl rfl rfl rfl rfl rfl ?_ | refine s_store (ws := [_, _, _, _, _]) ty34 rfl rfl rfl rfl rfl rfl rfl rfl ?_
    refine t_assign rfl rfl rfl ?_
    refine tr_nil ?_
    refine ac_ret ?_
    refine ⟨.inr rfl, _, ⟨_, _, _, _, _, rfl, rfl, rfl, .inl (retAgg ty34 rfl), ⟨_, _, rfl, rfl, rfl⟩⟩, ?_, ?_⟩
    · have e : liftE t a y = t.err := by simp only [liftE, hb0, if_true]
      rw [e, if_neg (by simpa using hb0)]
      (repeat' (first | exact VLe.rfl | exact VLes.rfl | exact VLes.nil | refine VLes.cons ?_ ?_ | refine VLe.agg ?_ | refine VLe.tup ?_ | exact VLe.own | exact VLe.full | exact VLe.nils | exact VLe.any | exact VLe.clo | exact VLe.fn | refine VLe.intE ?_ | refine VLe.boolE ?_ | refine VLe.sliceE ?_ | refine VLe.ownE ?_ | refine VLe.ownO ?_ | refine VLe.fullE ?_ | refine VLe.nilsE ?_))
    · (intro l o h; cases h)
  · refine ac_cond rfl (fun hb => by cases hb) (fun _ => ?_)
    refine ac_skip ?_
    change AC _ _ _ _ _
    refine ac_seq ?_
    refine ac_ts mixed ?_
    refine t_move rfl rfl rfl ?_
    first | refine s_callF rfl .rfl (within_ev _) rfl rfl ?_ | refine s_callF rfl (by (repeat' (first | exact VLes.rfl | exact VLes.nil | exact VLe.rfl | refine VLes.cons ?_ ?_ | exact VLe.own | exact VLe.full | exact VLe.nils | refine VLe.agg ?_ | exact VLe.fullE (dTms_one _) | exact VLe.fullE (dTms_two _ _) | exact VLe.fullE (dTms_three _ _ _) | exact VLe.fullE (dTys_one _) | exact VLe.fullE (dTys_two _ _) | exact VLe.fullE (dTys_three _ _ _)))) (within_ev _) rfl rfl ?_
    refine t_not rfl rfl rfl ?_
    refine t_move rfl rfl rfl ?_
    refine tr_bool (fun h18 => ?_) (fun h18 => ?_)
    · refine t_skip ⟨_, rfl, .inl ⟨_, rfl, rfl⟩⟩ rfl ?_
      refine t_skip ⟨_, rfl, .inl ⟨_, rfl, rfl⟩⟩ rfl ?_
      refine t_skip ⟨_, rfl, .inl ⟨_, rfl, rfl⟩⟩ rfl ?_
      refine t_pick_t rfl rfl rfl rfl rfl ?_
      refine t_move rfl rfl rfl ?_
      refine t_skip ⟨_, rfl, .inl ⟨_, rfl, rfl⟩⟩ rfl ?_
      refine t_skip ⟨_, rfl, .inl ⟨_, rfl, rfl⟩⟩ rfl ?_
      refine t_skip ⟨_, rfl, .inl ⟨_, rfl, rfl⟩⟩ rfl ?_
      refine t_pick_t rfl rfl rfl rfl rfl ?_
      refine tr_nil ?_
      refine ac_cond rfl (fun hb => ?_) (fun hb => by cases hb)
      refine ac_ts mixed ?_
      refine s_build (res := [_, _, _, _, _]) zer34 plc34 rfl rfl rfl rfl rfl ?_
      first | refine s_storeW ty34 rfl rfl rfl rfl rfl rfl rfl ?_ | refine s_store (ws := [_, _, _, _, _]) ty34 rfl rfl rfl rfl rfl rfl rfl rfl ?_
      refine t_assign rfl rfl rfl ?_
      refine tr_nil ?_
      refine ac_ret ?_
      refine ⟨.inr rfl, _, ⟨_, _, _, _, _, rfl, rfl, rfl, .inl (retAgg ty34 rfl), ⟨_, _, rfl, rfl, rfl⟩⟩, ?_, ?_⟩
      · have e : liftE t a y = 1 := by simp_all [liftE]
        rw [e]
        (repeat' (first | exact VLe.rfl | exact VLes.rfl | exact VLes.nil | refine VLes.cons ?_ ?_ | refine VLe.agg ?_ | refine VLe.tup ?_ | exact VLe.own | exact VLe.full | exact VLe.nils | exact VLe.any | exact VLe.clo | exact VLe.fn | refine VLe.intE ?_ | refine VLe.boolE ?_ | refine VLe.sliceE ?_ | refine VLe.ownE ?_ | refine VLe.ownO ?_ | refine VLe.fullE ?_ | refine VLe.nilsE ?_))
      · (intro l o h; cases h)
    · refine t_move rfl ⟨_, rfl, .inl ⟨_, rfl, rfl⟩⟩ rfl ?_
      first | refine s_callF rfl .rfl (within_ev _) ⟨_, rfl, .inl ⟨_, rfl, rfl⟩⟩ rfl ?_ | refine s_callF rfl (by (repeat' (first | exact VLes.rfl | exact VLes.nil | exact VLe.rfl | refine VLes.cons ?_ ?_ | exact VLe.own | exact VLe.full | exact VLe.nils | refine VLe.agg ?_ | exact VLe.fullE (dTms_one _) | exact VLe.fullE (dTms_two _ _) | exact VLe.fullE (dTms_three _ _ _) | exact VLe.fullE (dTys_one _) | exact VLe.fullE (dTys_two _ _) | exact VLe.fullE (dTys_three _ _ _)))) (within_ev _) ⟨_, rfl, .inl ⟨_, rfl, rfl⟩⟩ rfl ?_
      refine t_not rfl ⟨_, rfl, .inl ⟨_, rfl, rfl⟩⟩ rfl ?_
      refine t_pick_f rfl rfl rfl rfl rfl ?_
      refine t_move rfl rfl rfl ?_
      refine tr_bool (fun h23 => ?_) (fun h23 => ?_)
      · refine t_skip ⟨_, rfl, .inl ⟨_, rfl, rfl⟩⟩ rfl ?_
        refine t_skip ⟨_, rfl, .inl ⟨_, rfl, rfl⟩⟩ rfl ?_
        refine t_skip ⟨_, rfl, .inl ⟨_, rfl, rfl⟩⟩ rfl ?_
        refine t_pick_t rfl rfl rfl rfl rfl ?_
        refine tr_nil ?_
        refine ac_cond rfl (fun hb => ?_) (fun hb => by cases hb)
        refine ac_ts mixed ?_
        refine s_build (res := [_, _, _, _, _]) zer34 plc34 rfl rfl rfl rfl rfl ?_
        first | refine s_storeW ty34 rfl rfl rfl rfl rfl rfl rfl ?_ | refine s_store (ws := [_, _, _, _, _]) ty34 rfl rfl rfl rfl rfl rfl rfl rfl ?_
        refine t_assign rfl rfl rfl ?_
        refine tr_nil ?_
        refine ac_ret ?_
        refine ⟨.inr rfl, _, ⟨_, _, _, _, _, rfl, rfl, rfl, .inl (retAgg ty34 rfl), ⟨_, _, rfl, rfl, rfl⟩⟩, ?_, ?_⟩
        · have e : liftE t a y = 1 := by simp_all [liftE]
          rw [e]
          (repeat' (first | exact VLe.rfl | exact VLes.rfl | exact VLes.nil | refine VLes.cons ?_ ?_ | refine VLe.agg ?_ | refine VLe.tup ?_ | exact VLe.own | exact VLe.full | exact VLe.nils | exact VLe.any | exact VLe.clo | exact VLe.fn | refine VLe.intE ?_ | refine VLe.boolE ?_ | refine VLe.sliceE ?_ | refine VLe.ownE ?_ | refine VLe.ownO ?_ | refine VLe.fullE ?_ | refine VLe.nilsE ?_))
        · (intro l o h; cases h)
      · first | refine t_load ty34 rfl rfl rfl rfl ⟨_, rfl, .inl ⟨_, rfl, rfl⟩⟩ rfl ?_ | refine s_loadWc ty34 rfl rfl ⟨_, rfl, .inl ⟨_, rfl, rfl⟩⟩ rfl ?_ | refine t_loadN (us := [_, _, _, _, _]) ty34 rfl rfl rfl rfl ⟨_, rfl, .inl ⟨_, rfl, rfl⟩⟩ rfl ?_ | refine t_loadNc (us := [_, _, _, _, _]) ty34 rfl rfl rfl ⟨_, rfl, .inl ⟨_, rfl, rfl⟩⟩ rfl ?_
        first | refine s_callF rfl .rfl (Near_ev t ht) ⟨_, rfl, .inl ⟨_, rfl, rfl⟩⟩ rfl ?_ | refine s_callF rfl (by (repeat' (first | exact VLes.rfl | exact VLes.nil | exact VLe.rfl | refine VLes.cons ?_ ?_ | exact VLe.own | exact VLe.full | exact VLe.nils | refine VLe.agg ?_ | exact VLe.fullE (dTms_one _) | exact VLe.fullE (dTms_two _ _) | exact VLe.fullE (dTms_three _ _ _) | exact VLe.fullE (dTys_one _) | exact VLe.fullE (dTys_two _ _) | exact VLe.fullE (dTys_three _ _ _)))) (Near_ev t ht) ⟨_, rfl, .inl ⟨_, rfl, rfl⟩⟩ rfl ?_
        refine t_not rfl ⟨_, rfl, .inl ⟨_, rfl, rfl⟩⟩ rfl ?_
        refine t_pick_f rfl rfl rfl rfl rfl ?_
        refine tr_nil ?_
        refine ac_bool (fun hb1 => ?_) (fun hb1 => ?_)
        · refine ac_cond rfl (fun _ => ?_) (fun hb => by cases hb)
          refine ac_ts mixed ?_
          refine s_build (res := [_, _, _, _, _]) zer34 plc34 rfl rfl rfl rfl rfl ?_
          first | refine s_storeW ty34 rfl rfl rfl rfl rfl rfl rfl ?_ | refine s_store (ws := [_, _, _, _, _]) ty34 rfl rfl rfl rfl rfl rfl rfl rfl ?_
          refine t_assign rfl rfl rfl ?_
          refine tr_nil ?_
          refine ac_ret ?_
          refine ⟨.inr rfl, _, ⟨_, _, _, _, _, rfl, rfl, rfl, .inl (retAgg ty34 rfl), ⟨_, _, rfl, rfl, rfl⟩⟩, ?_, ?_⟩
          · have e : liftE t a y = 1 := by simp_all [liftE]
            rw [e]
            (repeat' (first | exact VLe.rfl | exact VLes.rfl | exact VLes.nil | refine VLes.cons ?_ ?_ | refine VLe.agg ?_ | refine VLe.tup ?_ | exact VLe.own | exact VLe.full | exact VLe.nils | exact VLe.any | exact VLe.clo | exact VLe.fn | refine VLe.intE ?_ | refine VLe.boolE ?_ | refine VLe.sliceE ?_ | refine VLe.ownE ?_ | refine VLe.ownO ?_ | refine VLe.fullE ?_ | refine VLe.nilsE ?_))
          · (intro l o h; cases h)
        · refine ac_cond rfl (fun hb => by cases hb) (fun _ => ?_)
          refine ac_skip ?_
          change AC _ _ _ _ _
          refine ac_ts mixed ?_
          first | refine t_load ty34 rfl rfl rfl rfl rfl rfl ?_ | refine s_loadWc ty34 rfl rfl rfl rfl ?_ | refine t_loadN (us := [_, _, _, _, _]) ty34 rfl rfl rfl rfl rfl rfl ?_ | refine t_loadNc (us := [_, _, _, _, _]) ty34 rfl rfl rfl rfl rfl ?_
          refine t_move rfl rfl rfl ?_
          refine t_move rfl rfl rfl ?_
          first | refine s_callF rfl .rfl (Lift_ev t ht a y) rfl rfl ?_ | refine s_callF rfl (by (repeat' (first | exact VLes.rfl | exact VLes.nil | exact VLe.rfl | refine VLes.cons ?_ ?_ | exact VLe.own | exact VLe.full | exact VLe.nils | refine VLe.agg ?_ | exact VLe.fullE (dTms_one _) | exact VLe.fullE (dTms_two _ _) | exact VLe.fullE (dTms_three _ _ _) | exact VLe.fullE (dTys_one _) | exact VLe.fullE (dTys_two _ _) | exact VLe.fullE (dTys_three _ _ _)))) (Lift_ev t ht a y) rfl rfl ?_
          first | refine s_storeW ty34 rfl rfl rfl rfl rfl rfl rfl ?_ | refine s_store (ws := [_, _, _, _, _]) ty34 rfl rfl rfl rfl rfl rfl rfl rfl ?_
          refine t_assign rfl rfl rfl ?_
          refine tr_nil ?_
          refine ac_ret ?_
          refine ⟨.inr rfl, _, ⟨_, _, _, _, _, rfl, rfl, rfl, .inl (retAgg ty34 rfl), ⟨_, _, rfl, rfl, rfl⟩⟩, ?_, ?_⟩
          · have e : liftE t a y = 0 := by simp_all [liftE]
            rw [e]
            (repeat' (first | exact VLe.rfl | exact VLes.rfl | exact VLes.nil | refine VLes.cons ?_ ?_ | refine VLe.agg ?_ | refine VLe.tup ?_ | exact VLe.own | exact VLe.full | exact VLe.nils | exact VLe.any | exact VLe.clo | exact VLe.fn | refine VLe.intE ?_ | refine VLe.boolE ?_ | refine VLe.sliceE ?_ | refine VLe.ownE ?_ | refine VLe.ownO ?_ | refine VLe.fullE ?_ | refine VLe.nilsE ?_))
          · (intro l o h; cases h)
theorem subst_Lower_ev (t : Trm) (ht : t.big ≤ 1000000) (a : Int) : Ev Tryd.prog GL 18 [vTm t, .d (.int .i64 a)] [] (.tup [vTm (if lowerE t a == 0 then t.put a .zero else .zero), .d (.int .i64 (lowerE t a))]) [] := by
  -- live at cond 0: t1, t2(ptr), t4(ptr)
  -- live at cond 1: t1, t2(ptr), t4(ptr)
  -- live at cond 2: t1, t2(ptr), t4(ptr)
  refine ev_of_body (N := 26) (ks := []) (ρ0 := [(0, _), (1, _)]) (σ0 := []) (rs := [.cell 4 34, .tmp 5]) Tryd.func18 rfl (by kernel_rfl) rfl rfl rfl rfl rfl rfl rfl rfl rfl rfl (fun E ι0 => ?_)
  refine ac_ts mixed ?_
  refine s_box 2 rfl rfl rfl rfl rfl ?_
  refine s_alloc 4 zer34 rfl rfl rfl rfl ?_
  refine t_assign rfl rfl rfl ?_
  refine tr_nil ?_
  refine ac_seq ?_
  refine ac_ts mixed ?_
  first | refine t_load ty34 rfl rfl rfl rfl rfl rfl ?_ | refine s_loadWc ty34 rfl rfl rfl rfl ?_ | refine t_loadN (us := [_, _, _, _, _]) ty34 rfl rfl rfl rfl rfl rfl ?_ | refine t_loadNc (us := [_, _, _, _, _]) ty34 rfl rfl rfl rfl rfl ?_
  first | refine s_callF rfl .rfl (terms_Check_ev t ht) rfl rfl ?_ | refine s_callF rfl (by (repeat' (first | exact VLes.rfl | exact VLes.nil | exact VLe.rfl | refine VLes.cons ?_ ?_ | exact VLe.own | exact VLe.full | exact VLe.nils | refine VLe.agg ?_ | exact VLe.fullE (dTms_one _) | exact VLe.fullE (dTms_two _ _) | exact VLe.fullE (dTms_three _ _ _) | exact VLe.fullE (dTys_one _) | exact VLe.fullE (dTys_two _ _) | exact VLe.fullE (dTys_three _ _ _)))) (terms_Check_ev t ht) rfl rfl ?_
  refine t_assign rfl rfl rfl ?_
  refine tr_nil ?_
  refine ac_ts mixed ?_
  refine t_move rfl rfl rfl ?_
  refine t_bin rfl rfl .neq rfl rfl ?_
  refine tr_nil ?_
  refine ac_bool (fun hb0 => ?_) (fun hb0 => ?_)
  · refine ac_cond rfl (fun _ => ?_) (fun hb => by cases hb)
    refine ac_ts mixed ?_
    refine s_build (res := [_, _, _, _, _]) zer34 plc34 rfl rfl rfl rfl rfl ?_
    refine t_move rfl rfl rfl ?_
    first | refine s_storeW ty34 rfl rfl rfl rfl rfl rfl rfl ?_ | refine s_store (ws := [_, _, _, _, _]) ty34 rfl rfl rfl rfl rfl rfl rfl rfl ?_
    refine t_assign rfl rfl rfl ?_
    refine tr_nil ?_
    refine ac_ret ?_
    refine ⟨.inr rfl, _, ⟨_, _, _, _, _, rfl, rfl, rfl, .inl (retAgg ty34 rfl), ⟨_, _, rfl, rfl, rfl⟩⟩, ?_, ?_⟩
    · have e : lowerE t a = t.err := by simp only [lowerE, hb0, if_true]
      rw [e, if_neg (by simpa using hb0)]
      (repeat' (first | exact VLe.rfl | exact VLes.rfl | exact VLes.nil | refine VLes.cons ?_ ?_ | refine VLe.agg ?_ | refine VLe.tup ?_ | exact VLe.own | exact VLe.full | exact VLe.nils | exact VLe.any | exact VLe.clo | exact VLe.fn | refine VLe.intE ?_ | refine VLe.boolE ?_ | refine VLe.sliceE ?_ | refine VLe.ownE ?_ | refine VLe.ownO ?_ | refine VLe.fullE ?_ | refine VLe.nilsE ?_))
    · (intro l o h; cases h)
  · refine ac_cond rfl (fun hb => by cases hb) (fun _ => ?_)
    refine ac_skip ?_
    change AC _ _ _ _ _
    refine ac_seq ?_
    refine ac_ts mixed ?_
    refine t_move rfl rfl rfl ?_
    first | refine s_callF rfl .rfl (within_ev _) rfl rfl ?_ | refine s_callF rfl (by (repeat' (first | exact VLes.rfl | exact VLes.nil | exact VLe.rfl | refine VLes.cons ?_ ?_ | exact VLe.own | exact VLe.full | exact VLe.nils | refine VLe.agg ?_ | exact VLe.fullE (dTms_one _) | exact VLe.fullE (dTms_two _ _) | exact VLe.fullE (dTms_three _ _ _) | exact VLe.fullE (dTys_one _) | exact VLe.fullE (dTys_two _ _) | exact VLe.fullE (dTys_three _ _ _)))) (within_ev _) rfl rfl ?_
    refine t_not rfl rfl rfl ?_
    refine tr_nil ?_
    refine ac_bool (fun hb1 => ?_) (fun hb1 => ?_)
    · refine ac_cond rfl (fun _ => ?_) (fun hb => by cases hb)
      refine ac_ts mixed ?_
      refine s_build (res := [_, _, _, _, _]) zer34 plc34 rfl rfl rfl rfl rfl ?_
      first | refine s_storeW ty34 rfl rfl rfl rfl rfl rfl rfl ?_ | refine s_store (ws := [_, _, _, _, _]) ty34 rfl rfl rfl rfl rfl rfl rfl rfl ?_
      refine t_assign rfl rfl rfl ?_
      refine tr_nil ?_
      refine ac_ret ?_
      refine ⟨.inr rfl, _, ⟨_, _, _, _, _, rfl, rfl, rfl, .inl (retAgg ty34 rfl), ⟨_, _, rfl, rfl, rfl⟩⟩, ?_, ?_⟩
      · have e : lowerE t a = 1 := by simp_all [lowerE]
        rw [e]
        (repeat' (first | exact VLe.rfl | exact VLes.rfl | exact VLes.nil | refine VLes.cons ?_ ?_ | refine VLe.agg ?_ | refine VLe.tup ?_ | exact VLe.own | exact VLe.full | exact VLe.nils | exact VLe.any | exact VLe.clo | exact VLe.fn | refine VLe.intE ?_ | refine VLe.boolE ?_ | refine VLe.sliceE ?_ | refine VLe.ownE ?_ | refine VLe.ownO ?_ | refine VLe.fullE ?_ | refine VLe.nilsE ?_))
      · (intro l o h; cases h)
    · refine ac_cond rfl (fun hb => by cases hb) (fun _ => ?_)
      refine ac_skip ?_
      change AC _ _ _ _ _
      refine ac_seq ?_
      refine ac_ts mixed ?_
      first | refine t_load ty34 rfl rfl rfl rfl rfl rfl ?_ | refine s_loadWc ty34 rfl rfl rfl rfl ?_ | refine t_loadN (us := [_, _, _, _, _]) ty34 rfl rfl rfl rfl rfl rfl ?_ | refine t_loadNc (us := [_, _, _, _, _]) ty34 rfl rfl rfl rfl rfl ?_
      refine t_move rfl rfl rfl ?_
      first | refine s_callF rfl .rfl (Count_ev t ht a) rfl rfl ?_ | refine s_callF rfl (by (repeat' (first | exact VLes.rfl | exact VLes.nil | exact VLe.rfl | refine VLes.cons ?_ ?_ | exact VLe.own | exact VLe.full | exact VLe.nils | refine VLe.agg ?_ | exact VLe.fullE (dTms_one _) | exact VLe.fullE (dTms_two _ _) | exact VLe.fullE (dTms_three _ _ _) | exact VLe.fullE (dTys_one _) | exact VLe.fullE (dTys_two _ _) | exact VLe.fullE (dTys_three _ _ _)))) (Count_ev t ht a) rfl rfl ?_
      refine t_bin rfl rfl .gtr rfl rfl ?_
      refine tr_nil ?_
      refine ac_bool (fun hb2 => ?_) (fun hb2 => ?_)
      · refine ac_cond rfl (fun _ => ?_) (fun hb => by cases hb)
        refine ac_ts mixed ?_
        refine s_build (res := [_, _, _, _, _]) zer34 plc34 rfl rfl rfl rfl rfl ?_
        first | refine s_storeW ty34 rfl rfl rfl rfl rfl rfl rfl ?_ | refine s_store (ws := [_, _, _, _, _]) ty34 rfl rfl rfl rfl rfl rfl rfl rfl ?_
        refine t_assign rfl rfl rfl ?_
        refine tr_nil ?_
        refine ac_ret ?_
        refine ⟨.inr rfl, _, ⟨_, _, _, _, _, rfl, rfl, rfl, .inl (retAgg ty34 rfl), ⟨_, _, rfl, rfl, rfl⟩⟩, ?_, ?_⟩
        · have e : lowerE t a = 6 := by simp_all [lowerE]
          rw [e]
          (repeat' (first | exact VLe.rfl | exact VLes.rfl | exact VLes.nil | refine VLes.cons ?_ ?_ | refine VLe.agg ?_ | refine VLe.tup ?_ | exact VLe.own | exact VLe.full | exact VLe.nils | exact VLe.any | exact VLe.clo | exact VLe.fn | refine VLe.intE ?_ | refine VLe.boolE ?_ | refine VLe.sliceE ?_ | refine VLe.ownE ?_ | refine VLe.ownO ?_ | refine VLe.fullE ?_ | refine VLe.nilsE ?_))
        · (intro l o h; cases h)
      · refine ac_cond rfl (fun hb => by cases hb) (fun _ => ?_)
        refine ac_skip ?_
        change AC _ _ _ _ _
        refine ac_ts mixed ?_
        first | refine t_load ty34 rfl rfl rfl rfl rfl rfl ?_ | refine s_loadWc ty34 rfl rfl rfl rfl ?_ | refine t_loadN (us := [_, _, _, _, _]) ty34 rfl rfl rfl rfl rfl rfl ?_ | refine t_loadNc (us := [_, _, _, _, _]) ty34 rfl rfl rfl rfl rfl ?_
        refine t_move rfl rfl rfl ?_
        refine s_build (res := [_, _, _, _, _]) zer34 plc34 rfl rfl rfl rfl rfl ?_
        refine s_callF rfl (.cons .rfl (.cons .rfl (.cons (.agg (.cons .rfl (.cons .rfl (.cons .rfl (.cons .nils (.cons .nils .nil)))))) .nil))) (Put_ev t ht a .zero (by decide)) rfl rfl ?_
        first | refine s_storeW ty34 rfl rfl rfl rfl rfl rfl rfl ?_ | refine s_store (ws := [_, _, _, _, _]) ty34 rfl rfl rfl rfl rfl rfl rfl rfl ?_
        refine t_assign rfl rfl rfl ?_
        refine tr_nil ?_
        refine ac_ret ?_
        refine ⟨.inr rfl, _, ⟨_, _, _, _, _, rfl, rfl, rfl, .inl (retAgg ty34 rfl), ⟨_, _, rfl, rfl, rfl⟩⟩, ?_, ?_⟩
        · have e : lowerE t a = 0 := by simp_all [lowerE]
          rw [e]
          (repeat' (first | exact VLe.rfl | exact VLes.rfl | exact VLes.nil | refine VLes.cons ?_ ?_ | refine VLe.agg ?_ | refine VLe.tup ?_ | exact VLe.own | exact VLe.full | exact VLe.nils | exact VLe.any | exact VLe.clo | exact VLe.fn | refine VLe.intE ?_ | refine VLe.boolE ?_ | refine VLe.sliceE ?_ | refine VLe.ownE ?_ | refine VLe.ownO ?_ | refine VLe.fullE ?_ | refine VLe.nilsE ?_))
        · (intro l o h; cases h)
theorem subst_Put_ev (t : Trm) (ht : t.big ≤ 1000000) (a : Int) (s : Trm) (hs : s.big ≤ 1000000) : Ev Tryd.prog GL 12 [vTm t, .d (.int .i64 a), vTm s] [] (.tup [vTm (if putE t a s == 0 then t.put a s else .zero), .d (.int .i64 (putE t a s))]) [] := by
  -- live at cond 0: t1, t3(ptr), t5(ptr), t6(ptr), t8
  -- live at cond 1: t1, t3(ptr), t5(ptr), t6(ptr), t8
  -- live at cond 2: t1, t3(ptr), t5(ptr), t6(ptr), t8, t10
  -- live at cond 3: t1, t3(ptr), t5(ptr), t6(ptr), t8, t10
  -- live at cond 4: t1, t3(ptr), t5(ptr), t6(ptr)
  refine ev_of_body (N := 56) (ks := []) (ρ0 := [(0, _), (1, _), (2, _)]) (σ0 := []) (rs := [.cell 6 34, .tmp 7]) Tryd.func12 rfl (by kernel_rfl) rfl rfl rfl rfl rfl rfl rfl rfl rfl rfl (fun E ι0 => ?_)
  refine ac_ts mixed ?_
  refine s_box 3 rfl rfl rfl rfl rfl ?_
  refine s_box 5 rfl rfl rfl rfl rfl ?_
  refine s_alloc 6 zer34 rfl rfl rfl rfl ?_
  refine t_assign rfl rfl rfl ?_
  refine tr_nil ?_
  refine ac_ts mixed ?_
  first | refine t_load ty34 rfl rfl rfl rfl rfl rfl ?_ | refine s_loadWc ty34 rfl rfl rfl rfl ?_ | refine t_loadN (us := [_, _, _, _, _]) ty34 rfl rfl rfl rfl rfl rfl ?_ | refine t_loadNc (us := [_, _, _, _, _]) ty34 rfl rfl rfl rfl rfl ?_
  first | refine s_callF rfl .rfl (terms_Size_ev t ht) rfl rfl ?_ | refine s_callF rfl (by (repeat' (first | exact VLes.rfl | exact VLes.nil | exact VLe.rfl | refine VLes.cons ?_ ?_ | exact VLe.own | exact VLe.full | exact VLe.nils | refine VLe.agg ?_ | exact VLe.fullE (dTms_one _) | exact VLe.fullE (dTms_two _ _) | exact VLe.fullE (dTms_three _ _ _) | exact VLe.fullE (dTys_one _) | exact VLe.fullE (dTys_two _ _) | exact VLe.fullE (dTys_three _ _ _)))) (terms_Size_ev t ht) rfl rfl ?_
  refine t_move rfl rfl rfl ?_
  refine t_extract rfl rfl rfl rfl ?_
  refine t_extract rfl rfl rfl rfl ?_
  refine t_assign rfl rfl rfl ?_
  refine t_assign rfl rfl rfl ?_
  refine tr_nil ?_
  refine ac_seq ?_
  refine ac_ts mixed ?_
  refine t_move rfl rfl rfl ?_
  refine t_bin rfl rfl .neq rfl rfl ?_
  refine tr_nil ?_
  refine ac_bool (fun hb0 => ?_) (fun hb0 => ?_)
  · refine ac_cond rfl (fun _ => ?_) (fun hb => by cases hb)
    refine ac_ts mixed ?_
    refine s_build (res := [_, _, _, _, _]) zer34 plc34 rfl rfl rfl rfl rfl ?_
    refine t_move rfl rfl rfl ?_
    first | refine s_storeW ty34 rfl rfl rfl rfl rfl rfl rfl ?_ | refine s_store (ws := [_, _, _, _, _]) ty34 rfl rfl rfl rfl rfl rfl rfl rfl ?_
    refine t_assign rfl rfl rfl ?_
    refine tr_nil ?_
    refine ac_ret ?_
    refine ⟨.inr rfl, _, ⟨_, _, _, _, _, rfl, rfl, rfl, .inl (retAgg ty34 rfl), ⟨_, _, rfl, rfl, rfl⟩⟩, ?_, ?_⟩
    · have e : putE t a s = t.err := by simp only [putE, hb0, if_true]
      rw [e, if_neg (by simpa using hb0)]
      (repeat' (first | exact VLe.rfl | exact VLes.rfl | exact VLes.nil | refine VLes.cons ?_ ?_ | refine VLe.agg ?_ | refine VLe.tup ?_ | exact VLe.own | exact VLe.full | exact VLe.nils | exact VLe.any | exact VLe.clo | exact VLe.fn | refine VLe.intE ?_ | refine VLe.boolE ?_ | refine VLe.sliceE ?_ | refine VLe.ownE ?_ | refine VLe.ownO ?_ | refine VLe.fullE ?_ | refine VLe.nilsE ?_))
    · (intro l o h; cases h)
  · refine ac_cond rfl (fun hb => by cases hb) (fun _ => ?_)
    refine ac_skip ?_
    change AC _ _ _ _ _
    refine ac_seq ?_
    refine ac_ts mixed ?_
    refine t_move rfl rfl rfl ?_
    first | refine s_callF rfl .rfl (within_ev _) rfl rfl ?_ | refine s_callF rfl (by (repeat' (first | exact VLes.rfl | exact VLes.nil | exact VLe.rfl | refine VLes.cons ?_ ?_ | exact VLe.own | exact VLe.full | exact VLe.nils | refine VLe.agg ?_ | exact VLe.fullE (dTms_one _) | exact VLe.fullE (dTms_two _ _) | exact VLe.fullE (dTms_three _ _ _) | exact VLe.fullE (dTys_one _) | exact VLe.fullE (dTys_two _ _) | exact VLe.fullE (dTys_three _ _ _)))) (within_ev _) rfl rfl ?_
    refine t_not rfl rfl rfl ?_
    refine tr_nil ?_
    refine ac_bool (fun hb1 => ?_) (fun hb1 => ?_)
    · refine ac_cond rfl (fun _ => ?_) (fun hb => by cases hb)
      refine ac_ts mixed ?_
      refine s_build (res := [_, _, _, _, _]) zer34 plc34 rfl rfl rfl rfl rfl ?_
      first | refine s_storeW ty34 rfl rfl rfl rfl rfl rfl rfl ?_ | refine s_store (ws := [_, _, _, _, _]) ty34 rfl rfl rfl rfl rfl rfl rfl rfl ?_
      refine t_assign rfl rfl rfl ?_
      refine tr_nil ?_
      refine ac_ret ?_
      refine ⟨.inr rfl, _, ⟨_, _, _, _, _, rfl, rfl, rfl, .inl (retAgg ty34 rfl), ⟨_, _, rfl, rfl, rfl⟩⟩, ?_, ?_⟩
      · have e : putE t a s = 1 := by simp_all [putE]
        rw [e]
        (repeat' (first | exact VLe.rfl | exact VLes.rfl | exact VLes.nil | refine VLes.cons ?_ ?_ | refine VLe.agg ?_ | refine VLe.tup ?_ | exact VLe.own | exact VLe.full | exact VLe.nils | exact VLe.any | exact VLe.clo | exact VLe.fn | refine VLe.intE ?_ | refine VLe.boolE ?_ | refine VLe.sliceE ?_ | refine VLe.ownE ?_ | refine VLe.ownO ?_ | refine VLe.fullE ?_ | refine VLe.nilsE ?_))
      · (intro l o h; cases h)
    · refine ac_cond rfl (fun hb => by cases hb) (fun _ => ?_)
      refine ac_skip ?_
      change AC _ _ _ _ _
      refine ac_ts mixed ?_
      first | refine t_load ty34 rfl rfl rfl rfl rfl rfl ?_ | refine s_loadWc ty34 rfl rfl rfl rfl ?_ | refine t_loadN (us := [_, _, _, _, _]) ty34 rfl rfl rfl rfl rfl rfl ?_ | refine t_loadNc (us := [_, _, _, _, _]) ty34 rfl rfl rfl rfl rfl ?_
      first | refine s_callF rfl .rfl (terms_Size_ev s hs) rfl rfl ?_ | refine s_callF rfl (by (repeat' (first | exact VLes.rfl | exact VLes.nil | exact VLe.rfl | refine VLes.cons ?_ ?_ | exact VLe.own | exact VLe.full | exact VLe.nils | refine VLe.agg ?_ | exact VLe.fullE (dTms_one _) | exact VLe.fullE (dTms_two _ _) | exact VLe.fullE (dTms_three _ _ _) | exact VLe.fullE (dTys_one _) | exact VLe.fullE (dTys_two _ _) | exact VLe.fullE (dTys_three _ _ _)))) (terms_Size_ev s hs) rfl rfl ?_
      refine t_move rfl rfl rfl ?_
      refine t_extract rfl rfl rfl rfl ?_
      refine t_extract rfl rfl rfl rfl ?_
      refine t_assign rfl rfl rfl ?_
      refine t_assign rfl rfl rfl ?_
      refine tr_nil ?_
      refine ac_seq ?_
      refine ac_ts mixed ?_
      refine t_move rfl rfl rfl ?_
      refine t_bin rfl rfl .neq rfl rfl ?_
      refine tr_nil ?_
      refine ac_bool (fun hb2 => ?_) (fun hb2 => ?_)
      · refine ac_cond rfl (fun _ => ?_) (fun hb => by cases hb)
        refine ac_ts mixed ?_
        refine s_build (res := [_, _, _, _, _]) zer34 plc34 rfl rfl rfl rfl rfl ?_
        refine t_move rfl rfl rfl ?_
        first | refine s_storeW ty34 rfl rfl rfl rfl rfl rfl rfl ?_ | refine s_store (ws := [_, _, _, _, _]) ty34 rfl rfl rfl rfl rfl rfl rfl rfl ?_
        refine t_assign rfl rfl rfl ?_
        refine tr_nil ?_
        refine ac_ret ?_
        refine ⟨.inr rfl, _, ⟨_, _, _, _, _, rfl, rfl, rfl, .inl (retAgg ty34 rfl), ⟨_, _, rfl, rfl, rfl⟩⟩, ?_, ?_⟩
        · have e : putE t a s = s.err := by simp_all [putE]
          rw [e, if_neg (by simpa using hb2)]
          (repeat' (first | exact VLe.rfl | exact VLes.rfl | exact VLes.nil | refine VLes.cons ?_ ?_ | refine VLe.agg ?_ | refine VLe.tup ?_ | exact VLe.own | exact VLe.full | exact VLe.nils | exact VLe.any | exact VLe.clo | exact VLe.fn | refine VLe.intE ?_ | refine VLe.boolE ?_ | refine VLe.sliceE ?_ | refine VLe.ownE ?_ | refine VLe.ownO ?_ | refine VLe.fullE ?_ | refine VLe.nilsE ?_))
        · (intro l o h; cases h)
      · refine ac_cond rfl (fun hb => by cases hb) (fun _ => ?_)
        refine ac_skip ?_
        change AC _ _ _ _ _
        refine ac_seq ?_
        refine ac_ts mixed ?_
        first | refine t_load ty34 rfl rfl rfl rfl rfl rfl ?_ | refine s_loadWc ty34 rfl rfl rfl rfl ?_ | refine t_loadN (us := [_, _, _, _, _]) ty34 rfl rfl rfl rfl rfl rfl ?_ | refine t_loadNc (us := [_, _, _, _, _]) ty34 rfl rfl rfl rfl rfl ?_
        first | refine s_callF rfl .rfl (Near_ev t ht) rfl rfl ?_ | refine s_callF rfl (by (repeat' (first | exact VLes.rfl | exact VLes.nil | exact VLe.rfl | refine VLes.cons ?_ ?_ | exact VLe.own | exact VLe.full | exact VLe.nils | refine VLe.agg ?_ | exact VLe.fullE (dTms_one _) | exact VLe.fullE (dTms_two _ _) | exact VLe.fullE (dTms_three _ _ _) | exact VLe.fullE (dTys_one _) | exact VLe.fullE (dTys_two _ _) | exact VLe.fullE (dTys_three _ _ _)))) (Near_ev t ht) rfl rfl ?_
        refine t_not rfl rfl rfl ?_
        refine t_move rfl rfl rfl ?_
        refine tr_bool (fun h36 => ?_) (fun h36 => ?_)
        · refine t_skip ⟨_, rfl, .inl ⟨_, rfl, rfl⟩⟩ rfl ?_
          refine t_skip ⟨_, rfl, .inl ⟨_, rfl, rfl⟩⟩ rfl ?_
          refine t_skip ⟨_, rfl, .inl ⟨_, rfl, rfl⟩⟩ rfl ?_
          refine t_pick_t rfl rfl rfl rfl rfl ?_
          refine tr_nil ?_
          refine ac_cond rfl (fun hb => ?_) (fun hb => by cases hb)
          refine ac_ts mixed ?_
          refine s_build (res := [_, _, _, _, _]) zer34 plc34 rfl rfl rfl rfl rfl ?_
          first | refine s_storeW ty34 rfl rfl rfl rfl rfl rfl rfl ?_ | refine s_store (ws := [_, _, _, _, _]) ty34 rfl rfl rfl rfl rfl rfl rfl rfl ?_
          refine t_assign rfl rfl rfl ?_
          refine tr_nil ?_
          refine ac_ret ?_
          refine ⟨.inr rfl, _, ⟨_, _, _, _, _, rfl, rfl, rfl, .inl (retAgg ty34 rfl), ⟨_, _, rfl, rfl, rfl⟩⟩, ?_, ?_⟩
          · have e : putE t a s = 1 := by simp_all [putE]
            rw [e]
            (repeat' (first | exact VLe.rfl | exact VLes.rfl | exact VLes.nil | refine VLes.cons ?_ ?_ | refine VLe.agg ?_ | refine VLe.tup ?_ | exact VLe.own | exact VLe.full | exact VLe.nils | exact VLe.any | exact VLe.clo | exact VLe.fn | refine VLe.intE ?_ | refine VLe.boolE ?_ | refine VLe.sliceE ?_ | refine VLe.ownE ?_ | refine VLe.ownO ?_ | refine VLe.fullE ?_ | refine VLe.nilsE ?_))
          · (intro l o h; cases h)
        · first | refine t_load ty34 rfl rfl rfl rfl ⟨_, rfl, .inl ⟨_, rfl, rfl⟩⟩ rfl ?_ | refine s_loadWc ty34 rfl rfl ⟨_, rfl, .inl ⟨_, rfl, rfl⟩⟩ rfl ?_ | refine t_loadN (us := [_, _, _, _, _]) ty34 rfl rfl rfl rfl ⟨_, rfl, .inl ⟨_, rfl, rfl⟩⟩ rfl ?_ | refine t_loadNc (us := [_, _, _, _, _]) ty34 rfl rfl rfl ⟨_, rfl, .inl ⟨_, rfl, rfl⟩⟩ rfl ?_
          first | refine s_callF rfl .rfl (Near_ev s hs) ⟨_, rfl, .inl ⟨_, rfl, rfl⟩⟩ rfl ?_ | refine s_callF rfl (by (repeat' (first | exact VLes.rfl | exact VLes.nil | exact VLe.rfl | refine VLes.cons ?_ ?_ | exact VLe.own | exact VLe.full | exact VLe.nils | refine VLe.agg ?_ | exact VLe.fullE (dTms_one _) | exact VLe.fullE (dTms_two _ _) | exact VLe.fullE (dTms_three _ _ _) | exact VLe.fullE (dTys_one _) | exact VLe.fullE (dTys_two _ _) | exact VLe.fullE (dTys_three _ _ _)))) (Near_ev s hs) ⟨_, rfl, .inl ⟨_, rfl, rfl⟩⟩ rfl ?_
          refine t_not rfl ⟨_, rfl, .inl ⟨_, rfl, rfl⟩⟩ rfl ?_
          refine t_pick_f rfl rfl rfl rfl rfl ?_
          refine tr_nil ?_
          refine ac_bool (fun hb3 => ?_) (fun hb3 => ?_)
          · refine ac_cond rfl (fun _ => ?_) (fun hb => by cases hb)
            refine ac_ts mixed ?_
            refine s_build (res := [_, _, _, _, _]) zer34 plc34 rfl rfl rfl rfl rfl ?_
            first | refine s_storeW ty34 rfl rfl rfl rfl rfl rfl rfl ?_ | refine s_store (ws := [_, _, _, _, _]) ty34 rfl rfl rfl rfl rfl rfl rfl rfl ?_
            refine t_assign rfl rfl rfl ?_
            refine tr_nil ?_
            refine ac_ret ?_
            refine ⟨.inr rfl, _, ⟨_, _, _, _, _, rfl, rfl, rfl, .inl (retAgg ty34 rfl), ⟨_, _, rfl, rfl, rfl⟩⟩, ?_, ?_⟩
            · have e : putE t a s = 1 := by simp_all [putE]
              rw [e]
              (repeat' (first | exact VLe.rfl | exact VLes.rfl | exact VLes.nil | refine VLes.cons ?_ ?_ | refine VLe.agg ?_ | refine VLe.tup ?_ | exact VLe.own | exact VLe.full | exact VLe.nils | exact VLe.any | exact VLe.clo | exact VLe.fn | refine VLe.intE ?_ | refine VLe.boolE ?_ | refine VLe.sliceE ?_ | refine VLe.ownE ?_ | refine VLe.ownO ?_ | refine VLe.fullE ?_ | refine VLe.nilsE ?_))
            · (intro l o h; cases h)
          · refine ac_cond rfl (fun hb => by cases hb) (fun _ => ?_)
            refine ac_skip ?_
            change AC _ _ _ _ _
            refine ac_seq ?_
            refine ac_ts mixed ?_
            refine t_move rfl rfl rfl ?_
            first | refine t_load ty34 rfl rfl rfl rfl rfl rfl ?_ | refine s_loadWc ty34 rfl rfl rfl rfl ?_ | refine t_loadN (us := [_, _, _, _, _]) ty34 rfl rfl rfl rfl rfl rfl ?_ | refine t_loadNc (us := [_, _, _, _, _]) ty34 rfl rfl rfl rfl rfl ?_
            refine t_move rfl rfl rfl ?_
            first | refine s_callF rfl .rfl (Count_ev t ht a) rfl rfl ?_ | refine s_callF rfl (by (repeat' (first | exact VLes.rfl | exact VLes.nil | exact VLe.rfl | refine VLes.cons ?_ ?_ | exact VLe.own | exact VLe.full | exact VLe.nils | refine VLe.agg ?_ | exact VLe.fullE (dTms_one _) | exact VLe.fullE (dTms_two _ _) | exact VLe.fullE (dTms_three _ _ _) | exact VLe.fullE (dTys_one _) | exact VLe.fullE (dTys_two _ _) | exact VLe.fullE (dTys_three _ _ _)))) (Count_ev t ht a) rfl rfl ?_
            refine t_move rfl rfl rfl ?_
            refine t_bin rfl rfl .sub rfl rfl ?_
            refine t_bin rfl rfl .mul rfl rfl ?_
            refine t_bin rfl rfl .add rfl rfl ?_
            refine t_bin rfl rfl .gtr rfl rfl ?_
            refine tr_nil ?_
            refine ac_bool (fun hb4 => ?_) (fun hb4 => ?_)
            · refine ac_cond rfl (fun _ => ?_) (fun hb => by cases hb)
              refine ac_ts mixed ?_
              refine s_build (res := [_, _, _, _, _]) zer34 plc34 rfl rfl rfl rfl rfl ?_
              first | refine s_storeW ty34 rfl rfl rfl rfl rfl rfl rfl ?_ | refine s_store (ws := [_, _, _, _, _]) ty34 rfl rfl rfl rfl rfl rfl rfl rfl ?_
              refine t_assign rfl rfl rfl ?_
              refine tr_nil ?_
              refine ac_ret ?_
              refine ⟨.inr rfl, _, ⟨_, _, _, _, _, rfl, rfl, rfl, .inl (retAgg ty34 rfl), ⟨_, _, rfl, rfl, rfl⟩⟩, ?_, ?_⟩
              · have e : putE t a s = 4 := by simp_all [putE, w64]
                rw [e]
                (repeat' (first | exact VLe.rfl | exact VLes.rfl | exact VLes.nil | refine VLes.cons ?_ ?_ | refine VLe.agg ?_ | refine VLe.tup ?_ | exact VLe.own | exact VLe.full | exact VLe.nils | exact VLe.any | exact VLe.clo | exact VLe.fn | refine VLe.intE ?_ | refine VLe.boolE ?_ | refine VLe.sliceE ?_ | refine VLe.ownE ?_ | refine VLe.ownO ?_ | refine VLe.fullE ?_ | refine VLe.nilsE ?_))
              · (intro l o h; cases h)
            · refine ac_cond rfl (fun hb => by cases hb) (fun _ => ?_)
              refine ac_skip ?_
              change AC _ _ _ _ _
              refine ac_ts mixed ?_
              first | refine t_load ty34 rfl rfl rfl rfl rfl rfl ?_ | refine s_loadWc ty34 rfl rfl rfl rfl ?_ | refine t_loadN (us := [_, _, _, _, _]) ty34 rfl rfl rfl rfl rfl rfl ?_ | refine t_loadNc (us := [_, _, _, _, _]) ty34 rfl rfl rfl rfl rfl ?_
              refine t_move rfl rfl rfl ?_
              first | refine t_load ty34 rfl rfl rfl rfl rfl rfl ?_ | refine s_loadWc ty34 rfl rfl rfl rfl ?_ | refine t_loadN (us := [_, _, _, _, _]) ty34 rfl rfl rfl rfl rfl rfl ?_ | refine t_loadNc (us := [_, _, _, _, _]) ty34 rfl rfl rfl rfl rfl ?_
              first | refine s_callF rfl .rfl (Put_ev t ht a s hs) rfl rfl ?_ | refine s_callF rfl (by (repeat' (first | exact VLes.rfl | exact VLes.nil | exact VLe.rfl | refine VLes.cons ?_ ?_ | exact VLe.own | exact VLe.full | exact VLe.nils | refine VLe.agg ?_ | exact VLe.fullE (dTms_one _) | exact VLe.fullE (dTms_two _ _) | exact VLe.fullE (dTms_three _ _ _) | exact VLe.fullE (dTys_one _) | exact VLe.fullE (dTys_two _ _) | exact VLe.fullE (dTys_three _ _ _)))) (Put_ev t ht a s hs) rfl rfl ?_
              first | refine s_storeW ty34 rfl rfl rfl rfl rfl rfl rfl ?_ | refine s_store (ws := [_, _, _, _, _]) ty34 rfl rfl rfl rfl rfl rfl rfl rfl ?_
              refine t_assign rfl rfl rfl ?_
              refine tr_nil ?_
              refine ac_ret ?_
              refine ⟨.inr rfl, _, ⟨_, _, _, _, _, rfl, rfl, rfl, .inl (retAgg ty34 rfl), ⟨_, _, rfl, rfl, rfl⟩⟩, ?_, ?_⟩
              · have e : putE t a s = 0 := by simp_all [putE, w64]
                rw [e]
                (repeat' (first | exact VLe.rfl | exact VLes.rfl | exact VLes.nil | refine VLes.cons ?_ ?_ | refine VLe.agg ?_ | refine VLe.tup ?_ | exact VLe.own | exact VLe.full | exact VLe.nils | exact VLe.any | exact VLe.clo | exact VLe.fn | refine VLe.intE ?_ | refine VLe.boolE ?_ | refine VLe.sliceE ?_ | refine VLe.ownE ?_ | refine VLe.ownO ?_ | refine VLe.fullE ?_ | refine VLe.nilsE ?_))
              · (intro l o h; cases h)

/-! The second forms of types. -/
theorem r1_shape_ev (t : Typ) (ht : t.sz ≤ 1000000) : Ev Tryd.prog GL 73 [vTy t] [] (.d (.bool t.shape)) [] := by
  induction t using Typ.ind with
  | _ k l ih =>
  have hl := szTys_len l
  have hs : szTys l < 1000000 := by simp [Typ.sz] at ht; omega
  have hlen : l.length ≤ 1000000 := by omega
  show Ev _ _ _ [.agg [.d (.int .i64 k), .d (.slice (dTys l))]] _ _ _
  -- live at block 0: t1(ptr), t3
  -- live at block 1: 
  -- live at block 2: t21, t22, t23
  -- live at cond 0: t1(ptr), t3, t7, t8
  -- live at cond 1: t1(ptr), t3, t7, t8
  -- live at cond 2: t1(ptr), t3
  -- live at cond 3: t1(ptr), t12
  -- live at cond 4: t1(ptr), t3
  -- live at cond 5: t1(ptr)
  -- live at cond 6: t21, t22, t23
  -- live at cond 7: t21, t22, t23
  -- live at loop 0: t21, t22, t23
  refine ev_of_body (N := 31) (ks := []) (ρ0 := [(0, _)]) (σ0 := []) (rs := [.tmp 2]) Tryd.func73 rfl (by kernel_rfl) rfl rfl rfl rfl rfl rfl rfl rfl rfl rfl (fun E ι0 => ?_)
  refine ac_ts mixed ?_
  refine s_box 1 rfl rfl rfl rfl rfl ?_
  refine t_assign rfl rfl rfl ?_
  refine tr_nil ?_
  refine ac_ts mixed ?_
  refine t_assign rfl rfl rfl ?_
  refine tr_nil ?_
  refine ac_join (fun (a : Int) => ⟨[(1, .ptr 1 0), (3, .d (.int .i64 a))], [(1, some (.cells [.d (.int .i64 k), .d (.slice (dTys l))] 30))], [1]⟩) (fun (a : Int) => ∃ n : Nat, a = n ∧ wantTy k = some n) ?_ (fun a hj => ?_)
  · refine ac_ts mixed ?_
    first | refine t_fieldAddr fld30_0 rfl rfl rfl ?_ | refine t_fieldAddr_c fld30_0 rfl rfl rfl rfl rfl ?_
    first | refine t_load1 ty3 rfl rfl rfl rfl rfl ?_ | refine t_load1c ty3 rfl rfl rfl rfl ?_
    refine tr_nil ?_
    refine ac_block ?_
    refine ac_seq ?_
    refine ac_ts mixed ?_
    refine t_bin rfl rfl .eql rfl rfl ?_
    refine t_assign rfl rfl rfl ?_
    refine tr_nil ?_
    refine ac_bool (fun hb0 => ?_) (fun hb0 => ?_)
    · refine ac_cond rfl (fun _ => ?_) (fun hb => by cases hb)
      refine ac_skip ?_
      change AC _ _ _ _ _
      refine ac_cond rfl (fun hb => ?_) (fun hb => by cases hb)
      refine ac_skip ?_
      show ∃ a, _ ∧ Weak _ _ _
      refine ⟨?_, ?_, ?_⟩
      rotate_left 2
      · (refine weak_of ?_ ?_ rfl rfl rfl <;> (repeat' (first | exact trivial | refine ⟨⟨_, rfl, ?_⟩, ?_⟩ | exact OLe.rfl | refine OLe.cells ?_ | exact VLe.rfl | exact VLes.rfl | exact VLes.nil | refine VLes.cons ?_ ?_ | refine VLe.agg ?_ | refine VLe.tup ?_ | exact VLe.own | exact VLe.full | exact VLe.nils | exact VLe.any | exact VLe.clo | exact VLe.fn | refine VLe.intE ?_ | refine VLe.boolE ?_ | refine VLe.sliceE ?_ | refine VLe.ownE ?_ | refine VLe.ownO ?_ | refine VLe.fullE ?_ | refine VLe.nilsE ?_ | refine OLe.row ?_)))
      · first | exact ⟨0, rfl, by simp_all [wantTy, Typ.kind]⟩ | exact ⟨2, rfl, by simp_all [wantTy, Typ.kind]⟩
    · refine ac_cond rfl (fun hb => by cases hb) (fun _ => ?_)
      refine ac_ts mixed ?_
      refine t_bin rfl rfl .eql rfl rfl ?_
      refine t_assign rfl rfl rfl ?_
      refine tr_nil ?_
      refine ac_bool (fun hb1 => ?_) (fun hb1 => ?_)
      · refine ac_cond rfl (fun _ => ?_) (fun hb => by cases hb)
        refine ac_skip ?_
        change AC _ _ _ _ _
        refine ac_cond rfl (fun hb => ?_) (fun hb => by cases hb)
        refine ac_skip ?_
        show ∃ a, _ ∧ Weak _ _ _
        refine ⟨?_, ?_, ?_⟩
        rotate_left 2
        · (refine weak_of ?_ ?_ rfl rfl rfl <;> (repeat' (first | exact trivial | refine ⟨⟨_, rfl, ?_⟩, ?_⟩ | exact OLe.rfl | refine OLe.cells ?_ | exact VLe.rfl | exact VLes.rfl | exact VLes.nil | refine VLes.cons ?_ ?_ | refine VLe.agg ?_ | refine VLe.tup ?_ | exact VLe.own | exact VLe.full | exact VLe.nils | exact VLe.any | exact VLe.clo | exact VLe.fn | refine VLe.intE ?_ | refine VLe.boolE ?_ | refine VLe.sliceE ?_ | refine VLe.ownE ?_ | refine VLe.ownO ?_ | refine VLe.fullE ?_ | refine VLe.nilsE ?_ | refine OLe.row ?_)))
        · first | exact ⟨0, rfl, by simp_all [wantTy, Typ.kind]⟩ | exact ⟨2, rfl, by simp_all [wantTy, Typ.kind]⟩
      · refine ac_cond rfl (fun hb => by cases hb) (fun _ => ?_)
        refine ac_t mixed ?_
        refine t_bin rfl rfl .eql rfl rfl ?_
        refine t_assign rfl rfl rfl ?_
        refine tr_nil ?_
        change AC _ _ _ _ _
        refine ac_bool (fun hb2 => ?_) (fun hb2 => ?_)
        · refine ac_cond rfl (fun _ => ?_) (fun hb => by cases hb)
          refine ac_skip ?_
          show ∃ a, _ ∧ Weak _ _ _
          refine ⟨?_, ?_, ?_⟩
          rotate_left 2
          · (refine weak_of ?_ ?_ rfl rfl rfl <;> (repeat' (first | exact trivial | refine ⟨⟨_, rfl, ?_⟩, ?_⟩ | exact OLe.rfl | refine OLe.cells ?_ | exact VLe.rfl | exact VLes.rfl | exact VLes.nil | refine VLes.cons ?_ ?_ | refine VLe.agg ?_ | refine VLe.tup ?_ | exact VLe.own | exact VLe.full | exact VLe.nils | exact VLe.any | exact VLe.clo | exact VLe.fn | refine VLe.intE ?_ | refine VLe.boolE ?_ | refine VLe.sliceE ?_ | refine VLe.ownE ?_ | refine VLe.ownO ?_ | refine VLe.fullE ?_ | refine VLe.nilsE ?_ | refine OLe.row ?_)))
          · first | exact ⟨0, rfl, by simp_all [wantTy, Typ.kind]⟩ | exact ⟨2, rfl, by simp_all [wantTy, Typ.kind]⟩
        · refine ac_cond rfl (fun hb => by cases hb) (fun _ => ?_)
          refine ac_seq ?_
          refine ac_ts mixed ?_
          refine t_bin rfl rfl .eql rfl rfl ?_
          refine t_assign rfl rfl rfl ?_
          refine tr_nil ?_
          refine ac_bool (fun hb3 => ?_) (fun hb3 => ?_)
          · refine ac_cond rfl (fun _ => ?_) (fun hb => by cases hb)
            refine ac_skip ?_
            change AC _ _ _ _ _
            refine ac_cond rfl (fun hb => ?_) (fun hb => by cases hb)
            refine ac_t mixed ?_
            refine t_assign rfl rfl rfl ?_
            refine tr_nil ?_
            show ∃ a, _ ∧ Weak _ _ _
            refine ⟨?_, ?_, ?_⟩
            rotate_left 2
            · (refine weak_of ?_ ?_ rfl rfl rfl <;> (repeat' (first | exact trivial | refine ⟨⟨_, rfl, ?_⟩, ?_⟩ | exact OLe.rfl | refine OLe.cells ?_ | exact VLe.rfl | exact VLes.rfl | exact VLes.nil | refine VLes.cons ?_ ?_ | refine VLe.agg ?_ | refine VLe.tup ?_ | exact VLe.own | exact VLe.full | exact VLe.nils | exact VLe.any | exact VLe.clo | exact VLe.fn | refine VLe.intE ?_ | refine VLe.boolE ?_ | refine VLe.sliceE ?_ | refine VLe.ownE ?_ | refine VLe.ownO ?_ | refine VLe.fullE ?_ | refine VLe.nilsE ?_ | refine OLe.row ?_)))
            · first | exact ⟨0, rfl, by simp_all [wantTy, Typ.kind]⟩ | exact ⟨2, rfl, by simp_all [wantTy, Typ.kind]⟩
          · refine ac_cond rfl (fun hb => by cases hb) (fun _ => ?_)
            refine ac_t mixed ?_
            refine t_bin rfl rfl .eql rfl rfl ?_
            refine t_assign rfl rfl rfl ?_
            refine tr_nil ?_
            change AC _ _ _ _ _
            refine ac_bool (fun hb4 => ?_) (fun hb4 => ?_)
            · refine ac_cond rfl (fun _ => ?_) (fun hb => by cases hb)
              refine ac_t mixed ?_
              refine t_assign rfl rfl rfl ?_
              refine tr_nil ?_
              show ∃ a, _ ∧ Weak _ _ _
              refine ⟨?_, ?_, ?_⟩
              rotate_left 2
              · (refine weak_of ?_ ?_ rfl rfl rfl <;> (repeat' (first | exact trivial | refine ⟨⟨_, rfl, ?_⟩, ?_⟩ | exact OLe.rfl | refine OLe.cells ?_ | exact VLe.rfl | exact VLes.rfl | exact VLes.nil | refine VLes.cons ?_ ?_ | refine VLe.agg ?_ | refine VLe.tup ?_ | exact VLe.own | exact VLe.full | exact VLe.nils | exact VLe.any | exact VLe.clo | exact VLe.fn | refine VLe.intE ?_ | refine VLe.boolE ?_ | refine VLe.sliceE ?_ | refine VLe.ownE ?_ | refine VLe.ownO ?_ | refine VLe.fullE ?_ | refine VLe.nilsE ?_ | refine OLe.row ?_)))
              · first | exact ⟨0, rfl, by simp_all [wantTy, Typ.kind]⟩ | exact ⟨2, rfl, by simp_all [wantTy, Typ.kind]⟩
            · refine ac_cond rfl (fun hb => by cases hb) (fun _ => ?_)
              refine ac_ts mixed ?_
              refine t_assign rfl rfl rfl ?_
              refine tr_nil ?_
              refine ac_ret ?_
              refine ⟨.inr rfl, _, ⟨_, _, rfl, rfl, rfl⟩, ?_, ?_⟩
              · have : wantTy k = none := by simp_all [wantTy, Typ.kind]
                rw [show (Typ.mk k l).shape = false by simp [Typ.shape, this]]
                (repeat' (first | exact VLe.rfl | exact VLes.rfl | exact VLes.nil | refine VLes.cons ?_ ?_ | refine VLe.agg ?_ | refine VLe.tup ?_ | exact VLe.own | exact VLe.full | exact VLe.nils | exact VLe.any | exact VLe.clo | exact VLe.fn | refine VLe.intE ?_ | refine VLe.boolE ?_ | refine VLe.sliceE ?_ | refine VLe.ownE ?_ | refine VLe.ownO ?_ | refine VLe.fullE ?_ | refine VLe.nilsE ?_))
              · (intro l o h; cases h)
  · obtain ⟨n, rfl, hj⟩ := hj
    refine ac_seq ?_
    refine ac_ts mixed ?_
    first | refine t_fieldAddr fld30_1 rfl rfl rfl ?_ | refine t_fieldAddr_c fld30_1 rfl rfl rfl rfl rfl ?_
    first | refine t_load1 ty27 rfl rfl rfl rfl rfl ?_ | refine t_load1c ty27 rfl rfl rfl rfl ?_
    refine t_len rfl sli27 rfl (by constructor) rfl rfl ?_
    refine t_move rfl rfl rfl ?_
    refine t_bin rfl rfl .neq rfl rfl ?_
    refine tr_nil ?_
    refine ac_bool (fun hb5 => ?_) (fun hb5 => ?_)
    · refine ac_cond rfl (fun _ => ?_) (fun hb => by cases hb)
      refine ac_ts mixed ?_
      refine t_assign rfl rfl rfl ?_
      refine tr_nil ?_
      refine ac_ret ?_
      refine ⟨.inr rfl, _, ⟨_, _, rfl, rfl, rfl⟩, ?_, ?_⟩
      · rw [show (Typ.mk k l).shape = false by rw [Typ.shape, hj]; simp [dTys_len, Typ.args] at hb5; simp; intro h; omega]
        (repeat' (first | exact VLe.rfl | exact VLes.rfl | exact VLes.nil | refine VLes.cons ?_ ?_ | refine VLe.agg ?_ | refine VLe.tup ?_ | exact VLe.own | exact VLe.full | exact VLe.nils | exact VLe.any | exact VLe.clo | exact VLe.fn | refine VLe.intE ?_ | refine VLe.boolE ?_ | refine VLe.sliceE ?_ | refine VLe.ownE ?_ | refine VLe.ownO ?_ | refine VLe.fullE ?_ | refine VLe.nilsE ?_))
      · (intro l o h; cases h)
    · refine ac_cond rfl (fun hb => by cases hb) (fun _ => ?_)
      refine ac_skip ?_
      change AC _ _ _ _ _
      refine ac_seq ?_
      refine ac_ts mixed ?_
      first | refine t_fieldAddr fld30_1 rfl rfl rfl ?_ | refine t_fieldAddr_c fld30_1 rfl rfl rfl rfl rfl ?_
      first | refine t_load1 ty27 rfl rfl rfl rfl rfl ?_ | refine t_load1c ty27 rfl rfl rfl rfl ?_
      refine t_len rfl sli27 rfl (by constructor) rfl rfl ?_
      refine t_move rfl rfl rfl ?_
      refine tr_nil ?_
      refine ac_range mixed ((dTys l).length) (fun i => [(21, .d (.slice (dTys l)))]) (fun i => []) (fun i => []) (fun i => ∀ (j : Nat) a, j < i → l[j]? = some a → a.shape = true) (by simp) ?_ (by first | omega | (simp only [dTys_len, dTms_len, dInts_len, List.length_append, List.length_cons, List.length_nil, List.length_take]; omega)) rfl (fun i => ⟨rfl, rfl⟩) (fun i hi hI => ?_) (fun hI => ?_)
      · (refine weak_of ?_ ?_ rfl rfl rfl <;> (repeat' (first | exact trivial | refine ⟨⟨_, rfl, ?_⟩, ?_⟩ | exact OLe.rfl | refine OLe.cells ?_ | exact VLe.rfl | exact VLes.rfl | exact VLes.nil | refine VLes.cons ?_ ?_ | refine VLe.agg ?_ | refine VLe.tup ?_ | exact VLe.own | exact VLe.full | exact VLe.nils | exact VLe.any | exact VLe.clo | exact VLe.fn | refine VLe.intE ?_ | refine VLe.boolE ?_ | refine VLe.sliceE ?_ | refine VLe.ownE ?_ | refine VLe.ownO ?_ | refine VLe.fullE ?_ | refine VLe.nilsE ?_ | refine OLe.row ?_)))
      · rw [dTys_len] at hi
        have hg : l[i]? = some l[i] := List.getElem?_eq_getElem hi
        have hget := dTys_get hg
        have hm := List.getElem_mem hi
        have hsz := szTys_mem hm
        refine ac_ts mixed ?_
        refine t_indexAddr sli27 rfl (by constructor) rfl (Int.natCast_nonneg _) hget rfl rfl rfl ?_
        first | refine t_load ty30 rfl rfl rfl rfl rfl rfl ?_ | refine s_loadWc ty30 rfl rfl rfl rfl ?_ | refine t_loadN (us := [_, _]) ty30 rfl rfl rfl rfl rfl rfl ?_ | refine t_loadNc (us := [_, _]) ty30 rfl rfl rfl rfl rfl ?_
        refine s_alloc 5 zer30 rfl rfl rfl rfl ?_
        first | refine s_storeW ty30 rfl rfl rfl rfl rfl rfl rfl ?_ | refine s_store (ws := [_, _]) ty30 rfl rfl rfl rfl rfl rfl rfl rfl ?_
        refine tr_nil ?_
        refine ac_ts mixed ?_
        first | refine t_load ty30 rfl rfl rfl rfl rfl rfl ?_ | refine s_loadWc ty30 rfl rfl rfl rfl ?_ | refine t_loadN (us := [_, _]) ty30 rfl rfl rfl rfl rfl rfl ?_ | refine t_loadNc (us := [_, _]) ty30 rfl rfl rfl rfl rfl ?_
        first | refine s_callF rfl .rfl (ih _ hm (by omega)) rfl rfl ?_ | refine s_callF rfl (by (repeat' (first | exact VLes.rfl | exact VLes.nil | exact VLe.rfl | refine VLes.cons ?_ ?_ | exact VLe.own | exact VLe.full | exact VLe.nils | refine VLe.agg ?_ | exact VLe.fullE (dTms_one _) | exact VLe.fullE (dTms_two _ _) | exact VLe.fullE (dTms_three _ _ _) | exact VLe.fullE (dTys_one _) | exact VLe.fullE (dTys_two _ _) | exact VLe.fullE (dTys_three _ _ _)))) (ih _ hm (by omega)) rfl rfl ?_
        refine t_not rfl rfl rfl ?_
        refine tr_nil ?_
        refine ac_bool (fun hb7 => ?_) (fun hb7 => ?_)
        · refine ac_cond rfl (fun _ => ?_) (fun hb => by cases hb)
          refine ac_ts mixed ?_
          refine t_assign rfl rfl rfl ?_
          refine tr_nil ?_
          refine ac_ret ?_
          refine ⟨.inr rfl, _, ⟨_, _, rfl, rfl, rfl⟩, ?_, ?_⟩
          · rw [show (Typ.mk k l).shape = false by rw [Bool.eq_false_iff]; intro h; simp [Typ.shape, shapeTys_iff] at h; simp [h.2 _ hm] at hb7]
            (repeat' (first | exact VLe.rfl | exact VLes.rfl | exact VLes.nil | refine VLes.cons ?_ ?_ | refine VLe.agg ?_ | refine VLe.tup ?_ | exact VLe.own | exact VLe.full | exact VLe.nils | exact VLe.any | exact VLe.clo | exact VLe.fn | refine VLe.intE ?_ | refine VLe.boolE ?_ | refine VLe.sliceE ?_ | refine VLe.ownE ?_ | refine VLe.ownO ?_ | refine VLe.fullE ?_ | refine VLe.nilsE ?_))
          · (intro l o h; cases h)
        · refine ac_cond rfl (fun hb => by cases hb) (fun _ => ?_)
          refine ac_skip ?_
          show _ ∧ Weak _ _ _
          refine ⟨fun j a hj ha => by
             by_cases e : j = i
             · subst e; rw [hg] at ha; injection ha with ha; subst ha; simpa using hb7
             · exact hI j a (by omega) ha, ?_⟩
          (refine weak_of ?_ ?_ rfl rfl rfl <;> (repeat' (first | exact trivial | refine ⟨⟨_, rfl, ?_⟩, ?_⟩ | exact OLe.rfl | refine OLe.cells ?_ | exact VLe.rfl | exact VLes.rfl | exact VLes.nil | refine VLes.cons ?_ ?_ | refine VLe.agg ?_ | refine VLe.tup ?_ | exact VLe.own | exact VLe.full | exact VLe.nils | exact VLe.any | exact VLe.clo | exact VLe.fn | refine VLe.intE ?_ | refine VLe.boolE ?_ | refine VLe.sliceE ?_ | refine VLe.ownE ?_ | refine VLe.ownO ?_ | refine VLe.fullE ?_ | refine VLe.nilsE ?_ | refine OLe.row ?_)))
      · skip
        change AC _ _ _ _ _
        refine ac_ts mixed ?_
        refine t_assign rfl rfl rfl ?_
        refine tr_nil ?_
        refine ac_ret ?_
        refine ⟨.inr rfl, _, ⟨_, _, rfl, rfl, rfl⟩, ?_, ?_⟩
        · have e1 : (Typ.mk k l).shape = true := by
            simp only [Typ.shape, Bool.and_eq_true, beq_iff_eq, shapeTys_iff]
            refine ⟨by rw [hj]; simp [dTys_len, Typ.args] at hb5; simp; omega, fun a ha => ?_⟩
            obtain ⟨j, h1, h2⟩ := List.getElem_of_mem ha
            exact hI j a (by rw [dTys_len]; omega) (by rw [List.getElem?_eq_getElem h1, h2])
          rw [e1]
          (repeat' (first | exact VLe.rfl | exact VLes.rfl | exact VLes.nil | refine VLes.cons ?_ ?_ | refine VLe.agg ?_ | refine VLe.tup ?_ | exact VLe.own | exact VLe.full | exact VLe.nils | exact VLe.any | exact VLe.clo | exact VLe.fn | refine VLe.intE ?_ | refine VLe.boolE ?_ | refine VLe.sliceE ?_ | refine VLe.ownE ?_ | refine VLe.ownO ?_ | refine VLe.fullE ?_ | refine VLe.nilsE ?_))
        · (intro l o h; cases h)
theorem r1_size_ev (t : Typ) (ht : t.sz ≤ 1000000) : Ev Tryd.prog GL 74 [vTy t] [] (.d (.int .i64 (t.sz : Nat))) [] := by
  induction t using Typ.ind with
  | _ k l ih =>
  have hl := szTys_len l
  have hs : szTys l < 1000000 := by simp [Typ.sz] at ht; omega
  have hlen : l.length ≤ 1000000 := by omega
  show Ev _ _ _ [.agg [.d (.int .i64 k), .d (.slice (dTys l))]] _ (.d (.int .i64 ((1 + szTys l : Nat) : Int))) _
  -- live at block 0: t3
  -- live at block 1: t3, t7, t8, t9
  -- live at cond 0: t3, t7, t8, t9
  -- live at loop 0: t3, t7, t8, t9
  refine ev_of_body (N := 19) (ks := []) (ρ0 := [(0, _)]) (σ0 := []) (rs := [.tmp 2]) Tryd.func74 rfl (by kernel_rfl) rfl rfl rfl rfl rfl rfl rfl rfl rfl rfl (fun E ι0 => ?_)
  refine ac_ts mixed ?_
  refine s_box 1 rfl rfl rfl rfl rfl ?_
  refine t_assign rfl rfl rfl ?_
  refine tr_nil ?_
  refine ac_ts mixed ?_
  refine t_assign rfl rfl rfl ?_
  refine tr_nil ?_
  refine ac_seq ?_
  refine ac_ts mixed ?_
  first | refine t_fieldAddr fld30_1 rfl rfl rfl ?_ | refine t_fieldAddr_c fld30_1 rfl rfl rfl rfl rfl ?_
  first | refine t_load1 ty27 rfl rfl rfl rfl rfl ?_ | refine t_load1c ty27 rfl rfl rfl rfl ?_
  refine t_len rfl sli27 rfl (by constructor) rfl rfl ?_
  refine t_move rfl rfl rfl ?_
  refine tr_nil ?_
  refine ac_range mixed ((dTys l).length) (fun i => [(3, .d (.int .i64 ((1 + szTys (l.take i) : Nat) : Int))), (7, .d (.slice (dTys l)))]) (fun i => []) (fun i => []) (fun i => True) trivial ?_ (by first | omega | (simp only [dTys_len, dTms_len, dInts_len, List.length_append, List.length_cons, List.length_nil, List.length_take]; omega)) rfl (fun i => ⟨rfl, rfl⟩) (fun i hi hI => ?_) (fun hI => ?_)
  · (refine weak_of ?_ ?_ rfl rfl rfl <;> (repeat' (first | exact trivial | refine ⟨⟨_, rfl, ?_⟩, ?_⟩ | exact OLe.rfl | refine OLe.cells ?_ | exact VLe.rfl | exact VLes.rfl | exact VLes.nil | refine VLes.cons ?_ ?_ | refine VLe.agg ?_ | refine VLe.tup ?_ | exact VLe.own | exact VLe.full | exact VLe.nils | exact VLe.any | exact VLe.clo | exact VLe.fn | refine VLe.intE ?_ | refine VLe.boolE ?_ | refine VLe.sliceE ?_ | refine VLe.ownE ?_ | refine VLe.ownO ?_ | refine VLe.fullE ?_ | refine VLe.nilsE ?_ | refine OLe.row ?_)))
  · rw [dTys_len] at hi
    have hg : l[i]? = some l[i] := List.getElem?_eq_getElem hi
    have hget := dTys_get hg
    have hm := List.getElem_mem hi
    have hsz := szTys_mem hm
    refine ac_ts mixed ?_
    refine t_indexAddr sli27 rfl (by constructor) rfl (Int.natCast_nonneg _) hget rfl rfl rfl ?_
    first | refine t_load ty30 rfl rfl rfl rfl rfl rfl ?_ | refine s_loadWc ty30 rfl rfl rfl rfl ?_ | refine t_loadN (us := [_, _]) ty30 rfl rfl rfl rfl rfl rfl ?_ | refine t_loadNc (us := [_, _]) ty30 rfl rfl rfl rfl rfl ?_
    refine s_alloc 5 zer30 rfl rfl rfl rfl ?_
    first | refine s_storeW ty30 rfl rfl rfl rfl rfl rfl rfl ?_ | refine s_store (ws := [_, _]) ty30 rfl rfl rfl rfl rfl rfl rfl rfl ?_
    refine tr_nil ?_
    refine ac_t mixed ?_
    refine t_move rfl rfl rfl ?_
    first | refine t_load ty30 rfl rfl rfl rfl rfl rfl ?_ | refine s_loadWc ty30 rfl rfl rfl rfl ?_ | refine t_loadN (us := [_, _]) ty30 rfl rfl rfl rfl rfl rfl ?_ | refine t_loadNc (us := [_, _]) ty30 rfl rfl rfl rfl rfl ?_
    first | refine s_callF rfl .rfl (ih _ hm (by omega)) rfl rfl ?_ | refine s_callF rfl (by (repeat' (first | exact VLes.rfl | exact VLes.nil | exact VLe.rfl | refine VLes.cons ?_ ?_ | exact VLe.own | exact VLe.full | exact VLe.nils | refine VLe.agg ?_ | exact VLe.fullE (dTms_one _) | exact VLe.fullE (dTms_two _ _) | exact VLe.fullE (dTms_three _ _ _) | exact VLe.fullE (dTys_one _) | exact VLe.fullE (dTys_two _ _) | exact VLe.fullE (dTys_three _ _ _)))) (ih _ hm (by omega)) rfl rfl ?_
    refine t_bin rfl rfl .add rfl rfl ?_
    refine t_assign rfl rfl rfl ?_
    refine tr_nil ?_
    show _ ∧ Weak _ _ _
    refine ⟨trivial, ?_⟩
    have e2 := szTys_take_le l (i + 1)
    rw [szTys_take_succ hg] at e2
    rw [szTys_take_succ hg]
    (refine weak_of ?_ ?_ rfl rfl rfl <;> (repeat' (first | exact trivial | refine ⟨⟨_, rfl, ?_⟩, ?_⟩ | exact OLe.rfl | refine OLe.cells ?_ | exact VLe.rfl | exact VLes.rfl | exact VLes.nil | refine VLes.cons ?_ ?_ | refine VLe.agg ?_ | refine VLe.tup ?_ | exact VLe.own | exact VLe.full | exact VLe.nils | exact VLe.any | exact VLe.clo | exact VLe.fn | refine VLe.intE ?_ | refine VLe.boolE ?_ | refine VLe.sliceE ?_ | refine VLe.ownE ?_ | refine VLe.ownO ?_ | refine VLe.fullE ?_ | refine VLe.nilsE ?_ | refine OLe.row ?_)))
    rw [i64_id (by omega) (by omega)]; omega
  · skip
    change AC _ _ _ _ _
    refine ac_ts mixed ?_
    refine t_move rfl rfl rfl ?_
    refine t_assign rfl rfl rfl ?_
    refine tr_nil ?_
    refine ac_ret ?_
    refine ⟨.inr rfl, _, ⟨_, _, rfl, rfl, rfl⟩, ?_, ?_⟩
    · (repeat' (first | exact VLe.rfl | exact VLes.rfl | exact VLes.nil | refine VLes.cons ?_ ?_ | refine VLe.agg ?_ | refine VLe.tup ?_ | exact VLe.own | exact VLe.full | exact VLe.nils | exact VLe.any | exact VLe.clo | exact VLe.fn | refine VLe.intE ?_ | refine VLe.boolE ?_ | refine VLe.sliceE ?_ | refine VLe.ownE ?_ | refine VLe.ownO ?_ | refine VLe.fullE ?_ | refine VLe.nilsE ?_))
      rw [dTys_len, List.take_length]
    · (intro l o h; cases h)
theorem r1_Check_ev (t : Typ) (ht : t.sz ≤ 1000000) : Ev Tryd.prog GL 61 [vTy t] [] (.d (.int .i64 t.err)) [] := by
  -- live at cond 0: t1(ptr)
  -- live at cond 1: 
  refine ev_of_body (N := 9) (ks := []) (ρ0 := [(0, _)]) (σ0 := []) (rs := [.tmp 2]) Tryd.func61 rfl (by kernel_rfl) rfl rfl rfl rfl rfl rfl rfl rfl rfl rfl (fun E ι0 => ?_)
  refine ac_ts mixed ?_
  refine s_box 1 rfl rfl rfl rfl rfl ?_
  refine t_assign rfl rfl rfl ?_
  refine tr_nil ?_
  refine ac_seq ?_
  refine ac_ts mixed ?_
  first | refine t_load ty30 rfl rfl rfl rfl rfl rfl ?_ | refine s_loadWc ty30 rfl rfl rfl rfl ?_ | refine t_loadN (us := [_, _]) ty30 rfl rfl rfl rfl rfl rfl ?_ | refine t_loadNc (us := [_, _]) ty30 rfl rfl rfl rfl rfl ?_
  first | refine s_callF rfl .rfl (r1_shape_ev t ht) rfl rfl ?_ | refine s_callF rfl (by (repeat' (first | exact VLes.rfl | exact VLes.nil | exact VLe.rfl | refine VLes.cons ?_ ?_ | exact VLe.own | exact VLe.full | exact VLe.nils | refine VLe.agg ?_ | exact VLe.fullE (dTms_one _) | exact VLe.fullE (dTms_two _ _) | exact VLe.fullE (dTms_three _ _ _) | exact VLe.fullE (dTys_one _) | exact VLe.fullE (dTys_two _ _) | exact VLe.fullE (dTys_three _ _ _)))) (r1_shape_ev t ht) rfl rfl ?_
  refine t_not rfl rfl rfl ?_
  refine tr_nil ?_
  refine ac_bool (fun hb0 => ?_) (fun hb0 => ?_)
  · refine ac_cond rfl (fun _ => ?_) (fun hb => by cases hb)
    refine ac_ts mixed ?_
    refine t_assign rfl rfl rfl ?_
    refine tr_nil ?_
    refine ac_ret ?_
    refine ⟨.inr rfl, _, ⟨_, _, rfl, rfl, rfl⟩, ?_, ?_⟩
    · have e : t.err = 2 := by simp_all [Typ.err]
      rw [e]
      (repeat' (first | exact VLe.rfl | exact VLes.rfl | exact VLes.nil | refine VLes.cons ?_ ?_ | refine VLe.agg ?_ | refine VLe.tup ?_ | exact VLe.own | exact VLe.full | exact VLe.nils | exact VLe.any | exact VLe.clo | exact VLe.fn | refine VLe.intE ?_ | refine VLe.boolE ?_ | refine VLe.sliceE ?_ | refine VLe.ownE ?_ | refine VLe.ownO ?_ | refine VLe.fullE ?_ | refine VLe.nilsE ?_))
    · (intro l o h; cases h)
  · refine ac_cond rfl (fun hb => by cases hb) (fun _ => ?_)
    refine ac_skip ?_
    change AC _ _ _ _ _
    refine ac_seq ?_
    refine ac_ts mixed ?_
    first | refine t_load ty30 rfl rfl rfl rfl rfl rfl ?_ | refine s_loadWc ty30 rfl rfl rfl rfl ?_ | refine t_loadN (us := [_, _]) ty30 rfl rfl rfl rfl rfl rfl ?_ | refine t_loadNc (us := [_, _]) ty30 rfl rfl rfl rfl rfl ?_
    first | refine s_callF rfl .rfl (r1_size_ev t ht) rfl rfl ?_ | refine s_callF rfl (by (repeat' (first | exact VLes.rfl | exact VLes.nil | exact VLe.rfl | refine VLes.cons ?_ ?_ | exact VLe.own | exact VLe.full | exact VLe.nils | refine VLe.agg ?_ | exact VLe.fullE (dTms_one _) | exact VLe.fullE (dTms_two _ _) | exact VLe.fullE (dTms_three _ _ _) | exact VLe.fullE (dTys_one _) | exact VLe.fullE (dTys_two _ _) | exact VLe.fullE (dTys_three _ _ _)))) (r1_size_ev t ht) rfl rfl ?_
    refine t_bin rfl rfl .gtr rfl rfl ?_
    refine tr_nil ?_
    refine ac_bool (fun hb1 => ?_) (fun hb1 => ?_)
    · refine ac_cond rfl (fun _ => ?_) (fun hb => by cases hb)
      refine ac_ts mixed ?_
      refine t_assign rfl rfl rfl ?_
      refine tr_nil ?_
      refine ac_ret ?_
      refine ⟨.inr rfl, _, ⟨_, _, rfl, rfl, rfl⟩, ?_, ?_⟩
      · have e : t.err = 4 := by simp_all [Typ.err]; omega
        rw [e]
        (repeat' (first | exact VLe.rfl | exact VLes.rfl | exact VLes.nil | refine VLes.cons ?_ ?_ | refine VLe.agg ?_ | refine VLe.tup ?_ | exact VLe.own | exact VLe.full | exact VLe.nils | exact VLe.any | exact VLe.clo | exact VLe.fn | refine VLe.intE ?_ | refine VLe.boolE ?_ | refine VLe.sliceE ?_ | refine VLe.ownE ?_ | refine VLe.ownO ?_ | refine VLe.fullE ?_ | refine VLe.nilsE ?_))
      · (intro l o h; cases h)
    · refine ac_cond rfl (fun hb => by cases hb) (fun _ => ?_)
      refine ac_skip ?_
      change AC _ _ _ _ _
      refine ac_ts mixed ?_
      refine t_assign rfl rfl rfl ?_
      refine tr_nil ?_
      refine ac_ret ?_
      refine ⟨.inr rfl, _, ⟨_, _, rfl, rfl, rfl⟩, ?_, ?_⟩
      · have e : t.err = 0 := by simp_all [Typ.err]; omega
        rw [e]
        (repeat' (first | exact VLe.rfl | exact VLes.rfl | exact VLes.nil | refine VLes.cons ?_ ?_ | refine VLe.agg ?_ | refine VLe.tup ?_ | exact VLe.own | exact VLe.full | exact VLe.nils | exact VLe.any | exact VLe.clo | exact VLe.fn | refine VLe.intE ?_ | refine VLe.boolE ?_ | refine VLe.sliceE ?_ | refine VLe.ownE ?_ | refine VLe.ownO ?_ | refine VLe.fullE ?_ | refine VLe.nilsE ?_))
      · (intro l o h; cases h)
theorem r1_Zero_ev (t : Typ) : Ev Tryd.prog GL 86 [vTy t] [] (.d (.bool t.none)) [] := by
  refine ev_of_body (N := 12) (ks := []) (ρ0 := [(0, _)]) (σ0 := []) (rs := [.tmp 2]) Tryd.func86 rfl (by kernel_rfl) rfl rfl rfl rfl rfl rfl rfl rfl rfl rfl (fun E ι0 => ?_)
  refine ac_ts mixed ?_
  refine s_box 1 rfl rfl rfl rfl rfl ?_
  refine t_assign rfl rfl rfl ?_
  refine tr_nil ?_
  refine ac_ts mixed ?_
  first | refine t_fieldAddr fld30_0 rfl rfl rfl ?_ | refine t_fieldAddr_c fld30_0 rfl rfl rfl rfl rfl ?_
  first | refine t_load1 ty3 rfl rfl rfl rfl rfl ?_ | refine t_load1c ty3 rfl rfl rfl rfl ?_
  refine t_bin rfl rfl .eql rfl rfl ?_
  refine t_move rfl rfl rfl ?_
  refine tr_bool (fun h6 => ?_) (fun h6 => ?_)
  · first | refine t_fieldAddr fld30_1 rfl ⟨_, rfl, .inl ⟨_, rfl, rfl⟩⟩ rfl ?_ | refine t_fieldAddr_c fld30_1 rfl rfl ⟨_, rfl, .inl ⟨_, rfl, rfl⟩⟩ rfl rfl ?_
    first | refine t_load1 ty27 rfl rfl rfl ⟨_, rfl, .inl ⟨_, rfl, rfl⟩⟩ rfl ?_ | refine t_load1c ty27 rfl rfl ⟨_, rfl, .inl ⟨_, rfl, rfl⟩⟩ rfl ?_
    refine t_len rfl sli27 rfl (by constructor) ⟨_, rfl, .inl ⟨_, rfl, rfl⟩⟩ rfl ?_
    refine t_bin rfl rfl .eql ⟨_, rfl, .inl ⟨_, rfl, rfl⟩⟩ rfl ?_
    refine t_pick_t rfl rfl rfl rfl rfl ?_
    refine t_assign rfl rfl rfl ?_
    refine tr_nil ?_
    refine ac_ret ?_
    refine ⟨.inr rfl, _, ⟨_, _, rfl, rfl, rfl⟩, ?_, ?_⟩
    · (repeat' (first | exact VLe.rfl | exact VLes.rfl | exact VLes.nil | refine VLes.cons ?_ ?_ | refine VLe.agg ?_ | refine VLe.tup ?_ | exact VLe.own | exact VLe.full | exact VLe.nils | exact VLe.any | exact VLe.clo | exact VLe.fn | refine VLe.intE ?_ | refine VLe.boolE ?_ | refine VLe.sliceE ?_ | refine VLe.ownE ?_ | refine VLe.ownO ?_ | refine VLe.fullE ?_ | refine VLe.nilsE ?_))
      all_goals simp_all [Typ.none, dTys_len, nat_beq0]
    · (intro l o h; cases h)
  · refine t_skip ⟨_, rfl, .inl ⟨_, rfl, rfl⟩⟩ rfl ?_
    refine t_skip ⟨_, rfl, .inl ⟨_, rfl, rfl⟩⟩ rfl ?_
    refine t_skip ⟨_, rfl, .inl ⟨_, rfl, rfl⟩⟩ rfl ?_
    refine t_skip ⟨_, rfl, .inl ⟨_, rfl, rfl⟩⟩ rfl ?_
    refine t_pick_f rfl rfl rfl rfl rfl ?_
    refine t_assign rfl rfl rfl ?_
    refine tr_nil ?_
    refine ac_ret ?_
    refine ⟨.inr rfl, _, ⟨_, _, rfl, rfl, rfl⟩, ?_, ?_⟩
    · (repeat' (first | exact VLe.rfl | exact VLes.rfl | exact VLes.nil | refine VLes.cons ?_ ?_ | refine VLe.agg ?_ | refine VLe.tup ?_ | exact VLe.own | exact VLe.full | exact VLe.nils | exact VLe.any | exact VLe.clo | exact VLe.fn | refine VLe.intE ?_ | refine VLe.boolE ?_ | refine VLe.sliceE ?_ | refine VLe.ownE ?_ | refine VLe.ownO ?_ | refine VLe.fullE ?_ | refine VLe.nilsE ?_))
      all_goals simp_all [Typ.none, dTys_len, nat_beq0]
    · (intro l o h; cases h)
theorem r1_Same_ev (t : Typ) (ht : t.sz ≤ 1000000) : ∀ u : Typ, Ev Tryd.prog GL 15 [vTy t, vTy u] [] (.d (.bool (t.same u))) [] := by
  induction t using Typ.ind with
  | _ k l ih =>
  rintro ⟨k', l'⟩
  have hl := szTys_len l
  have hs : szTys l < 1000000 := by simp [Typ.sz] at ht; omega
  have hlen : l.length ≤ 1000000 := by omega
  show Ev _ _ _ [.agg [.d (.int .i64 k), .d (.slice (dTys l))], .agg [.d (.int .i64 k'), .d (.slice (dTys l'))]] _ (.d (.bool (k == k' && sameTys l l'))) _
  -- live at block 0: 
  -- live at block 1: t2(ptr), t3(ptr), t22, t23
  -- live at cond 0: t2(ptr), t3(ptr)
  -- live at cond 1: t2(ptr), t3(ptr), t22, t23
  -- live at cond 2: t2(ptr), t3(ptr), t22, t23
  -- live at loop 0: t2(ptr), t3(ptr), t22, t23
  refine ev_of_body (N := 39) (ks := []) (ρ0 := [(0, _), (1, _)]) (σ0 := []) (rs := [.tmp 4]) Tryd.func15 rfl (by kernel_rfl) rfl rfl rfl rfl rfl rfl rfl rfl rfl rfl (fun E ι0 => ?_)
  refine ac_ts mixed ?_
  refine s_box 2 rfl rfl rfl rfl rfl ?_
  refine s_box 3 rfl rfl rfl rfl rfl ?_
  refine t_assign rfl rfl rfl ?_
  refine tr_nil ?_
  refine ac_seq ?_
  refine ac_ts mixed ?_
  first | refine t_fieldAddr fld30_0 rfl rfl rfl ?_ | refine t_fieldAddr_c fld30_0 rfl rfl rfl rfl rfl ?_
  first | refine t_load1 ty3 rfl rfl rfl rfl rfl ?_ | refine t_load1c ty3 rfl rfl rfl rfl ?_
  first | refine t_fieldAddr fld30_0 rfl rfl rfl ?_ | refine t_fieldAddr_c fld30_0 rfl rfl rfl rfl rfl ?_
  first | refine t_load1 ty3 rfl rfl rfl rfl rfl ?_ | refine t_load1c ty3 rfl rfl rfl rfl ?_
  refine t_bin rfl rfl .neq rfl rfl ?_
  refine t_move rfl rfl rfl ?_
  refine tr_bool (fun h11 => ?_) (fun h11 => ?_)
  · refine t_skip ⟨_, rfl, .inl ⟨_, rfl, rfl⟩⟩ rfl ?_
    refine t_skip ⟨_, rfl, .inl ⟨_, rfl, rfl⟩⟩ rfl ?_
    refine t_skip ⟨_, rfl, .inl ⟨_, rfl, rfl⟩⟩ rfl ?_
    refine t_skip ⟨_, rfl, .inl ⟨_, rfl, rfl⟩⟩ rfl ?_
    refine t_skip ⟨_, rfl, .inl ⟨_, rfl, rfl⟩⟩ rfl ?_
    refine t_skip ⟨_, rfl, .inl ⟨_, rfl, rfl⟩⟩ rfl ?_
    refine t_skip ⟨_, rfl, .inl ⟨_, rfl, rfl⟩⟩ rfl ?_
    refine t_pick_t rfl rfl rfl rfl rfl ?_
    refine tr_nil ?_
    skip
    refine ac_cond rfl (fun hb => ?_) (fun hb => by cases hb)
    refine ac_ts mixed ?_
    refine t_assign rfl rfl rfl ?_
    refine tr_nil ?_
    refine ac_ret ?_
    refine ⟨.inr rfl, _, ⟨_, _, rfl, rfl, rfl⟩, ?_, ?_⟩
    · have e : (k == k' && sameTys l l') = false := by
        rw [Bool.eq_false_iff]; intro h; rw [Bool.and_eq_true, sameTys_iff] at h
        simp_all [dTys_len]
      rw [e]
      (repeat' (first | exact VLe.rfl | exact VLes.rfl | exact VLes.nil | refine VLes.cons ?_ ?_ | refine VLe.agg ?_ | refine VLe.tup ?_ | exact VLe.own | exact VLe.full | exact VLe.nils | exact VLe.any | exact VLe.clo | exact VLe.fn | refine VLe.intE ?_ | refine VLe.boolE ?_ | refine VLe.sliceE ?_ | refine VLe.ownE ?_ | refine VLe.ownO ?_ | refine VLe.fullE ?_ | refine VLe.nilsE ?_))
    · (intro l o h; cases h)
  · first | refine t_fieldAddr fld30_1 rfl ⟨_, rfl, .inl ⟨_, rfl, rfl⟩⟩ rfl ?_ | refine t_fieldAddr_c fld30_1 rfl rfl ⟨_, rfl, .inl ⟨_, rfl, rfl⟩⟩ rfl rfl ?_
    first | refine t_load1 ty27 rfl rfl rfl ⟨_, rfl, .inl ⟨_, rfl, rfl⟩⟩ rfl ?_ | refine t_load1c ty27 rfl rfl ⟨_, rfl, .inl ⟨_, rfl, rfl⟩⟩ rfl ?_
    refine t_len rfl sli27 rfl (by constructor) ⟨_, rfl, .inl ⟨_, rfl, rfl⟩⟩ rfl ?_
    first | refine t_fieldAddr fld30_1 rfl ⟨_, rfl, .inl ⟨_, rfl, rfl⟩⟩ rfl ?_ | refine t_fieldAddr_c fld30_1 rfl rfl ⟨_, rfl, .inl ⟨_, rfl, rfl⟩⟩ rfl rfl ?_
    first | refine t_load1 ty27 rfl rfl rfl ⟨_, rfl, .inl ⟨_, rfl, rfl⟩⟩ rfl ?_ | refine t_load1c ty27 rfl rfl ⟨_, rfl, .inl ⟨_, rfl, rfl⟩⟩ rfl ?_
    refine t_len rfl sli27 rfl (by constructor) ⟨_, rfl, .inl ⟨_, rfl, rfl⟩⟩ rfl ?_
    refine t_bin rfl rfl .neq ⟨_, rfl, .inl ⟨_, rfl, rfl⟩⟩ rfl ?_
    refine t_pick_f rfl rfl rfl rfl rfl ?_
    refine tr_nil ?_
    skip
    refine ac_bool (fun hb0 => ?_) (fun hb0 => ?_)
    · refine ac_cond rfl (fun _ => ?_) (fun hb => by cases hb)
      refine ac_ts mixed ?_
      refine t_assign rfl rfl rfl ?_
      refine tr_nil ?_
      refine ac_ret ?_
      refine ⟨.inr rfl, _, ⟨_, _, rfl, rfl, rfl⟩, ?_, ?_⟩
      · have e : (k == k' && sameTys l l') = false := by
          rw [Bool.eq_false_iff]; intro h; rw [Bool.and_eq_true, sameTys_iff] at h
          simp_all [dTys_len]
        rw [e]
        (repeat' (first | exact VLe.rfl | exact VLes.rfl | exact VLes.nil | refine VLes.cons ?_ ?_ | refine VLe.agg ?_ | refine VLe.tup ?_ | exact VLe.own | exact VLe.full | exact VLe.nils | exact VLe.any | exact VLe.clo | exact VLe.fn | refine VLe.intE ?_ | refine VLe.boolE ?_ | refine VLe.sliceE ?_ | refine VLe.ownE ?_ | refine VLe.ownO ?_ | refine VLe.fullE ?_ | refine VLe.nilsE ?_))
      · (intro l o h; cases h)
    · refine ac_cond rfl (fun hb => by cases hb) (fun _ => ?_)
      refine ac_skip ?_
      change AC _ _ _ _ _
      refine ac_seq ?_
      refine ac_ts mixed ?_
      first | refine t_fieldAddr fld30_1 rfl rfl rfl ?_ | refine t_fieldAddr_c fld30_1 rfl rfl rfl rfl rfl ?_
      first | refine t_load1 ty27 rfl rfl rfl rfl rfl ?_ | refine t_load1c ty27 rfl rfl rfl rfl ?_
      refine t_len rfl sli27 rfl (by constructor) rfl rfl ?_
      refine t_move rfl rfl rfl ?_
      refine tr_nil ?_
      have hk : k = k' := by simpa using h11
      have hll : l.length = l'.length := by simp [dTys_len] at hb0; omega
      refine ac_range mixed ((dTys l).length) (fun i => [(2, .ptr 2 0), (3, .ptr 3 0)]) (fun i => [(2, some (.cells [.d (.int .i64 k), .d (.slice (dTys l))] 30)), (3, some (.cells [.d (.int .i64 k'), .d (.slice (dTys l'))] 30))]) (fun i => [2, 3]) (fun i => ∀ (j : Nat) a b, j < i → l[j]? = some a → l'[j]? = some b → a.same b = true) (by simp) ?_ (by first | omega | (simp only [dTys_len, dTms_len, dInts_len, List.length_append, List.length_cons, List.length_nil, List.length_take]; omega)) rfl (fun i => ⟨rfl, rfl⟩) (fun i hi hI => ?_) (fun hI => ?_)
      · (refine weak_of ?_ ?_ rfl rfl rfl <;> (repeat' (first | exact trivial | refine ⟨⟨_, rfl, ?_⟩, ?_⟩ | exact OLe.rfl | refine OLe.cells ?_ | exact VLe.rfl | exact VLes.rfl | exact VLes.nil | refine VLes.cons ?_ ?_ | refine VLe.agg ?_ | refine VLe.tup ?_ | exact VLe.own | exact VLe.full | exact VLe.nils | exact VLe.any | exact VLe.clo | exact VLe.fn | refine VLe.intE ?_ | refine VLe.boolE ?_ | refine VLe.sliceE ?_ | refine VLe.ownE ?_ | refine VLe.ownO ?_ | refine VLe.fullE ?_ | refine VLe.nilsE ?_ | refine OLe.row ?_)))
      · rw [dTys_len] at hi
        have hi' : i < l'.length := by omega
        have hg : l[i]? = some l[i] := List.getElem?_eq_getElem hi
        have hg' : l'[i]? = some l'[i] := List.getElem?_eq_getElem hi'
        have hget := dTys_get hg
        have hget' := dTys_get hg'
        have hm := List.getElem_mem hi
        have hsz := szTys_mem hm
        refine ac_ts mixed ?_
        refine t_move rfl rfl rfl ?_
        refine t_assign rfl rfl rfl ?_
        refine tr_nil ?_
        refine ac_ds mixed ?_
        first | refine t_fieldAddr fld30_1 rfl rfl rfl ?_ | refine t_fieldAddr_c fld30_1 rfl rfl rfl rfl rfl ?_
        first | refine t_load1 ty27 rfl rfl rfl rfl rfl ?_ | refine t_load1c ty27 rfl rfl rfl rfl ?_
        refine t_move rfl rfl rfl ?_
        refine t_indexAddr sli27 rfl (by constructor) rfl (Int.natCast_nonneg _) hget rfl rfl rfl ?_
        first | refine t_load ty30 rfl rfl rfl rfl rfl rfl ?_ | refine s_loadWc ty30 rfl rfl rfl rfl ?_ | refine t_loadN (us := [_, _]) ty30 rfl rfl rfl rfl rfl rfl ?_ | refine t_loadNc (us := [_, _]) ty30 rfl rfl rfl rfl rfl ?_
        first | refine t_fieldAddr fld30_1 rfl rfl rfl ?_ | refine t_fieldAddr_c fld30_1 rfl rfl rfl rfl rfl ?_
        first | refine t_load1 ty27 rfl rfl rfl rfl rfl ?_ | refine t_load1c ty27 rfl rfl rfl rfl ?_
        refine t_move rfl rfl rfl ?_
        refine t_indexAddr sli27 rfl (by constructor) rfl (Int.natCast_nonneg _) hget' rfl rfl rfl ?_
        first | refine t_load ty30 rfl rfl rfl rfl rfl rfl ?_ | refine s_loadWc ty30 rfl rfl rfl rfl ?_ | refine t_loadN (us := [_, _]) ty30 rfl rfl rfl rfl rfl rfl ?_ | refine t_loadNc (us := [_, _]) ty30 rfl rfl rfl rfl rfl ?_
        first | refine s_callF rfl .rfl (ih _ hm (by omega) _) rfl rfl ?_ | refine s_callF rfl (by (repeat' (first | exact VLes.rfl | exact VLes.nil | exact VLe.rfl | refine VLes.cons ?_ ?_ | exact VLe.own | exact VLe.full | exact VLe.nils | refine VLe.agg ?_ | exact VLe.fullE (dTms_one _) | exact VLe.fullE (dTms_two _ _) | exact VLe.fullE (dTms_three _ _ _) | exact VLe.fullE (dTys_one _) | exact VLe.fullE (dTys_two _ _) | exact VLe.fullE (dTys_three _ _ _)))) (ih _ hm (by omega) _) rfl rfl ?_
        refine t_not rfl rfl rfl ?_
        refine tr_nil ⟨by kernel_rfl, ?_⟩
        refine ac_bool (fun hb2 => ?_) (fun hb2 => ?_)
        · refine ac_cond rfl (fun _ => ?_) (fun hb => by cases hb)
          refine ac_ts mixed ?_
          refine t_assign rfl rfl rfl ?_
          refine tr_nil ?_
          refine ac_ret ?_
          refine ⟨.inr rfl, _, ⟨_, _, rfl, rfl, rfl⟩, ?_, ?_⟩
          · have e : (k == k' && sameTys l l') = false := by
              rw [Bool.eq_false_iff]; intro h; rw [Bool.and_eq_true, sameTys_iff] at h
              simp [h.2.2 i _ _ hg hg'] at hb2
            rw [e]
            (repeat' (first | exact VLe.rfl | exact VLes.rfl | exact VLes.nil | refine VLes.cons ?_ ?_ | refine VLe.agg ?_ | refine VLe.tup ?_ | exact VLe.own | exact VLe.full | exact VLe.nils | exact VLe.any | exact VLe.clo | exact VLe.fn | refine VLe.intE ?_ | refine VLe.boolE ?_ | refine VLe.sliceE ?_ | refine VLe.ownE ?_ | refine VLe.ownO ?_ | refine VLe.fullE ?_ | refine VLe.nilsE ?_))
          · (intro l o h; cases h)
        · refine ac_cond rfl (fun hb => by cases hb) (fun _ => ?_)
          refine ac_skip ?_
          show _ ∧ Weak _ _ _
          refine ⟨fun j a b hj ha hb => by
             by_cases e : j = i
             · subst e; rw [hg] at ha; injection ha with ha; subst ha; rw [hg'] at hb; injection hb with hb; subst hb; simpa using hb2
             · exact hI j a b (by omega) ha hb, ?_⟩
          (refine weak_of ?_ ?_ rfl rfl rfl <;> (repeat' (first | exact trivial | refine ⟨⟨_, rfl, ?_⟩, ?_⟩ | exact OLe.rfl | refine OLe.cells ?_ | exact VLe.rfl | exact VLes.rfl | exact VLes.nil | refine VLes.cons ?_ ?_ | refine VLe.agg ?_ | refine VLe.tup ?_ | exact VLe.own | exact VLe.full | exact VLe.nils | exact VLe.any | exact VLe.clo | exact VLe.fn | refine VLe.intE ?_ | refine VLe.boolE ?_ | refine VLe.sliceE ?_ | refine VLe.ownE ?_ | refine VLe.ownO ?_ | refine VLe.fullE ?_ | refine VLe.nilsE ?_ | refine OLe.row ?_)))
      · skip
        change AC _ _ _ _ _
        refine ac_ts mixed ?_
        refine t_assign rfl rfl rfl ?_
        refine tr_nil ?_
        refine ac_ret ?_
        refine ⟨.inr rfl, _, ⟨_, _, rfl, rfl, rfl⟩, ?_, ?_⟩
        · have e : (k == k' && sameTys l l') = true := by
            rw [Bool.and_eq_true, sameTys_iff]
            exact ⟨by simpa using hk, hll, fun j a b ha hb => hI j a b (by rw [dTys_len]; exact (List.getElem?_eq_some_iff.1 ha).1) ha hb⟩
          rw [e]
          (repeat' (first | exact VLe.rfl | exact VLes.rfl | exact VLes.nil | refine VLes.cons ?_ ?_ | refine VLe.agg ?_ | refine VLe.tup ?_ | exact VLe.own | exact VLe.full | exact VLe.nils | exact VLe.any | exact VLe.clo | exact VLe.fn | refine VLe.intE ?_ | refine VLe.boolE ?_ | refine VLe.sliceE ?_ | refine VLe.ownE ?_ | refine VLe.ownO ?_ | refine VLe.fullE ?_ | refine VLe.nilsE ?_))
        · (intro l o h; cases h)
theorem r1_Copy_ev (t : Typ) (ht : t.sz ≤ 1000000) : Ev Tryd.prog GL 49 [vTy t] [] (vTy t) [] := by
  induction t using Typ.ind with
  | _ k l ih =>
  have hl := szTys_len l
  have hs : szTys l < 1000000 := by simp [Typ.sz] at ht; omega
  have hlen : l.length ≤ 1000000 := by omega
  show Ev _ _ _ [.agg [.d (.int .i64 k), .d (.slice (dTys l))]] [] (.agg [.d (.int .i64 k), .d (.slice (dTys l))]) []
  -- live at block 0: t1(ptr), t2(ptr), t3
  -- live at block 1: t1(ptr), t2(ptr), t3, t7, t8, t9
  -- live at cond 0: t1(ptr), t2(ptr), t3, t7, t8, t9
  -- live at loop 0: t1(ptr), t2(ptr), t3, t7, t8, t9
  refine ev_of_body (N := 23) (ks := []) (ρ0 := [(0, _)]) (σ0 := []) (rs := [.cell 2 30]) Tryd.func49 rfl (by kernel_rfl) rfl rfl rfl rfl rfl rfl rfl rfl rfl rfl (fun E ι0 => ?_)
  refine ac_ts mixed ?_
  refine s_box 1 rfl rfl rfl rfl rfl ?_
  refine s_alloc 2 zer30 rfl rfl rfl rfl ?_
  refine tr_nil ?_
  refine ac_ts mixed ?_
  refine t_assign rfl rfl rfl ?_
  refine tr_nil ?_
  refine ac_seq ?_
  refine ac_ts mixed ?_
  first | refine t_fieldAddr fld30_1 rfl rfl rfl ?_ | refine t_fieldAddr_c fld30_1 rfl rfl rfl rfl rfl ?_
  first | refine t_load1 ty27 rfl rfl rfl rfl rfl ?_ | refine t_load1c ty27 rfl rfl rfl rfl ?_
  refine t_len rfl sli27 rfl (by constructor) rfl rfl ?_
  refine t_move rfl rfl rfl ?_
  refine tr_nil ?_
  refine ac_weak (weak_rowt (L := 100) (t := 3) (sz := 2) (e := 30) (es := []) rfl rfl VLe.nilfull) ?_
  refine ac_range mixed ((dTys l).length) (fun i => [(1, .ptr 1 0), (2, .ptr 2 0), (3, .own (dTys (l.take i)) 100), (7, .d (.slice (dTys l)))]) (fun i => [(1, some (.cells [.d (.int .i64 k), .d (.slice (dTys l))] 30)), (2, some (.cells [.d (.int .i64 0), .d .nils] 30)), (100, some (.row (dTys (l.take i)).length 2 30))]) (fun i => [1, 2, 100]) (fun i => True) trivial ?_ (by first | omega | (simp only [dTys_len, dTms_len, dInts_len, List.length_append, List.length_cons, List.length_nil, List.length_take]; omega)) rfl (fun i => ⟨rfl, rfl⟩) (fun i hi hI => ?_) (fun hI => ?_)
  · (refine weak_of ?_ ?_ rfl rfl rfl <;> (repeat' (first | exact trivial | refine ⟨⟨_, rfl, ?_⟩, ?_⟩ | exact OLe.rfl | refine OLe.cells ?_ | exact VLe.rfl | exact VLes.rfl | exact VLes.nil | refine VLes.cons ?_ ?_ | refine VLe.agg ?_ | refine VLe.tup ?_ | exact VLe.own | exact VLe.full | exact VLe.nils | exact VLe.any | exact VLe.clo | exact VLe.fn | refine VLe.intE ?_ | refine VLe.boolE ?_ | refine VLe.sliceE ?_ | refine VLe.ownE ?_ | refine VLe.ownO ?_ | refine VLe.fullE ?_ | refine VLe.nilsE ?_ | refine OLe.row ?_)))
  · rw [dTys_len] at hi
    have hg : l[i]? = some l[i] := List.getElem?_eq_getElem hi
    have hget := dTys_get hg
    have hm := List.getElem_mem hi
    have hsz := szTys_mem hm
    refine ac_ts mixed ?_
    refine t_indexAddr sli27 rfl (by constructor) rfl (Int.natCast_nonneg _) hget rfl rfl rfl ?_
    first | refine t_load ty30 rfl rfl rfl rfl rfl rfl ?_ | refine s_loadWc ty30 rfl rfl rfl rfl ?_ | refine t_loadN (us := [_, _]) ty30 rfl rfl rfl rfl rfl rfl ?_ | refine t_loadNc (us := [_, _]) ty30 rfl rfl rfl rfl rfl ?_
    refine s_alloc 5 zer30 rfl rfl rfl rfl ?_
    first | refine s_storeW ty30 rfl rfl rfl rfl rfl rfl rfl ?_ | refine s_store (ws := [_, _]) ty30 rfl rfl rfl rfl rfl rfl rfl rfl ?_
    refine tr_nil ?_
    refine ac_t mixed ?_
    refine t_move rfl rfl rfl ?_
    first | refine t_load ty30 rfl rfl rfl rfl rfl rfl ?_ | refine s_loadWc ty30 rfl rfl rfl rfl ?_ | refine t_loadN (us := [_, _]) ty30 rfl rfl rfl rfl rfl rfl ?_ | refine t_loadNc (us := [_, _]) ty30 rfl rfl rfl rfl rfl ?_
    first | refine s_callF rfl .rfl (ih _ hm (by omega)) rfl rfl ?_ | refine s_callF rfl (by (repeat' (first | exact VLes.rfl | exact VLes.nil | exact VLe.rfl | refine VLes.cons ?_ ?_ | exact VLe.own | exact VLe.full | exact VLe.nils | refine VLe.agg ?_ | exact VLe.fullE (dTms_one _) | exact VLe.fullE (dTms_two _ _) | exact VLe.fullE (dTms_three _ _ _) | exact VLe.fullE (dTys_one _) | exact VLe.fullE (dTys_two _ _) | exact VLe.fullE (dTys_three _ _ _)))) (ih _ hm (by omega)) rfl rfl ?_
    first | refine t_buildSlice sli27 (Opds.ofL rfl) (.cons (.agg .rfl) .nil) (by intro x hx; simp only [List.mem_cons, List.not_mem_nil, or_false] at hx; rcases hx with rfl <;> rfl) rfl rfl rfl rfl ?_ | refine t_buildSlice sli27 (Opds.ofL rfl) (Elems.ofL rfl) (by intro x hx; simp only [List.mem_cons, List.not_mem_nil, or_false] at hx; rcases hx with rfl <;> rfl) rfl rfl rfl rfl ?_
    first | refine t_append_own rfl sli27 rfl rfl (by constructor) rfl (by (first | exact dTys_sz _ | exact dTms_sz _ | exact dInts_sz _ | exact sz_nil | exact sz_one rfl | exact sz_app (dTys_sz _) (sz_one rfl) | exact sz_app (dTms_sz _) (sz_one rfl))) (by (first | exact dTys_sz _ | exact dTms_sz _ | exact dInts_sz _ | exact sz_nil | exact sz_one rfl | exact sz_app (dTys_sz _) (sz_one rfl) | exact sz_app (dTms_sz _) (sz_one rfl))) (by (simp only [dTys_len, dTms_len, dInts_len, List.length_append, List.length_cons, List.length_nil, List.length_take]; omega)) rfl rfl rfl rfl ?_ | refine t_append rfl sli27 rfl (by first | exact VLe.nilfull | exact VLe.rfl) rfl (by constructor) (by (first | exact dTys_sz _ | exact dTms_sz _ | exact dInts_sz _ | exact sz_nil | exact sz_one rfl | exact sz_app (dTys_sz _) (sz_one rfl) | exact sz_app (dTms_sz _) (sz_one rfl))) (by (first | exact dTys_sz _ | exact dTms_sz _ | exact dInts_sz _ | exact sz_nil | exact sz_one rfl | exact sz_app (dTys_sz _) (sz_one rfl) | exact sz_app (dTms_sz _) (sz_one rfl))) (by (simp only [dTys_len, dTms_len, dInts_len, List.length_append, List.length_cons, List.length_nil, List.length_take]; omega)) rfl rfl rfl rfl rfl ?_
    refine t_assign rfl rfl rfl ?_
    refine tr_nil ?_
    show _ ∧ Weak _ _ _
    refine ⟨trivial, ?_⟩
    rw [show dTys (l.take (i + 1)) = dTys (l.take i) ++ [dTy l[i]] by rw [take_succ_of hg, dTys_push]]
    (refine weak_of ?_ ?_ rfl rfl rfl <;> (repeat' (first | exact trivial | refine ⟨⟨_, rfl, ?_⟩, ?_⟩ | exact OLe.rfl | refine OLe.cells ?_ | exact VLe.rfl | exact VLes.rfl | exact VLes.nil | refine VLes.cons ?_ ?_ | refine VLe.agg ?_ | refine VLe.tup ?_ | exact VLe.own | exact VLe.full | exact VLe.nils | exact VLe.any | exact VLe.clo | exact VLe.fn | refine VLe.intE ?_ | refine VLe.boolE ?_ | refine VLe.sliceE ?_ | refine VLe.ownE ?_ | refine VLe.ownO ?_ | refine VLe.fullE ?_ | refine VLe.nilsE ?_ | refine OLe.row ?_)))
  · skip
    change AC _ _ _ _ _
    refine ac_ts mixed ?_
    first | refine t_fieldAddr fld30_0 rfl rfl rfl ?_ | refine t_fieldAddr_c fld30_0 rfl rfl rfl rfl rfl ?_
    first | refine t_load1 ty3 rfl rfl rfl rfl rfl ?_ | refine t_load1c ty3 rfl rfl rfl rfl ?_
    refine t_move rfl rfl rfl ?_
    refine s_build (res := [_, _]) zer30 plc30 rfl rfl rfl rfl rfl ?_
    first | refine s_storeW ty30 rfl rfl rfl rfl rfl rfl rfl ?_ | refine s_store (ws := [_, _]) ty30 rfl rfl rfl rfl rfl rfl rfl rfl ?_
    refine tr_nil ?_
    refine ac_ret ?_
    refine ⟨.inr rfl, _, ⟨_, _, _, _, _, rfl, rfl, rfl, .inl (retAgg ty30 rfl), rfl⟩, ?_, ?_⟩
    · (repeat' (first | exact VLe.rfl | exact VLes.rfl | exact VLes.nil | refine VLes.cons ?_ ?_ | refine VLe.agg ?_ | refine VLe.tup ?_ | exact VLe.own | exact VLe.full | exact VLe.nils | exact VLe.any | exact VLe.clo | exact VLe.fn | refine VLe.intE ?_ | refine VLe.boolE ?_ | refine VLe.sliceE ?_ | refine VLe.ownE ?_ | refine VLe.ownO ?_ | refine VLe.fullE ?_ | refine VLe.nilsE ?_))
      rw [dTys_len, List.take_length]
    · (intro l o h; cases h)
theorem r1_Fun_ev (a b : Typ) (ha : a.sz ≤ 1000000) (hb : b.sz ≤ 1000000) : Ev Tryd.prog GL 28 [vTy a, vTy b] [] (vTy (.mk 4 [a, b])) [] := by
  refine ev_of_body (N := 11) (ks := []) (ρ0 := [(0, _), (1, _)]) (σ0 := []) (rs := [.cell 4 30]) Tryd.func28 rfl (by kernel_rfl) rfl rfl rfl rfl rfl rfl rfl rfl rfl rfl (fun E ι0 => ?_)
  refine ac_ts mixed ?_
  refine s_box 2 rfl rfl rfl rfl rfl ?_
  refine s_box 3 rfl rfl rfl rfl rfl ?_
  refine s_alloc 4 zer30 rfl rfl rfl rfl ?_
  refine tr_nil ?_
  refine ac_ds mixed ?_
  first | refine t_load ty30 rfl rfl rfl rfl rfl rfl ?_ | refine s_loadWc ty30 rfl rfl rfl rfl ?_ | refine t_loadN (us := [_, _]) ty30 rfl rfl rfl rfl rfl rfl ?_ | refine t_loadNc (us := [_, _]) ty30 rfl rfl rfl rfl rfl ?_
  first | refine s_callF rfl .rfl (r1_Copy_ev a ha) rfl rfl ?_ | refine s_callF rfl (by (repeat' (first | exact VLes.rfl | exact VLes.nil | exact VLe.rfl | refine VLes.cons ?_ ?_ | exact VLe.own | exact VLe.full | exact VLe.nils | refine VLe.agg ?_ | exact VLe.fullE (dTms_one _) | exact VLe.fullE (dTms_two _ _) | exact VLe.fullE (dTms_three _ _ _) | exact VLe.fullE (dTys_one _) | exact VLe.fullE (dTys_two _ _) | exact VLe.fullE (dTys_three _ _ _)))) (r1_Copy_ev a ha) rfl rfl ?_
  first | refine t_load ty30 rfl rfl rfl rfl rfl rfl ?_ | refine s_loadWc ty30 rfl rfl rfl rfl ?_ | refine t_loadN (us := [_, _]) ty30 rfl rfl rfl rfl rfl rfl ?_ | refine t_loadNc (us := [_, _]) ty30 rfl rfl rfl rfl rfl ?_
  first | refine s_callF rfl .rfl (r1_Copy_ev b hb) rfl rfl ?_ | refine s_callF rfl (by (repeat' (first | exact VLes.rfl | exact VLes.nil | exact VLe.rfl | refine VLes.cons ?_ ?_ | exact VLe.own | exact VLe.full | exact VLe.nils | refine VLe.agg ?_ | exact VLe.fullE (dTms_one _) | exact VLe.fullE (dTms_two _ _) | exact VLe.fullE (dTms_three _ _ _) | exact VLe.fullE (dTys_one _) | exact VLe.fullE (dTys_two _ _) | exact VLe.fullE (dTys_three _ _ _)))) (r1_Copy_ev b hb) rfl rfl ?_
  first | refine t_buildSlice sli27 (Opds.ofL rfl) (.cons (.agg .rfl) (.cons (.agg .rfl) .nil)) (by intro x hx; simp only [List.mem_cons, List.not_mem_nil, or_false] at hx; rcases hx with rfl | rfl <;> rfl) rfl rfl rfl rfl ?_ | refine t_buildSlice sli27 (Opds.ofL rfl) (Elems.ofL rfl) (by intro x hx; simp only [List.mem_cons, List.not_mem_nil, or_false] at hx; rcases hx with rfl | rfl <;> rfl) rfl rfl rfl rfl ?_
  refine s_build (res := [_, _]) zer30 plc30 rfl rfl rfl rfl rfl ?_
  first | refine s_storeW ty30 rfl rfl rfl rfl rfl rfl rfl ?_ | refine s_store (ws := [_, _]) ty30 rfl rfl rfl rfl rfl rfl rfl rfl ?_
  refine tr_nil ⟨by kernel_rfl, ?_⟩
  refine ac_ret ?_
  refine ⟨.inr rfl, _, ⟨_, _, _, _, _, rfl, rfl, rfl, .inl (retAgg ty30 rfl), rfl⟩, ?_, ?_⟩
  · (repeat' (first | exact VLe.rfl | exact VLes.rfl | exact VLes.nil | refine VLes.cons ?_ ?_ | refine VLe.agg ?_ | refine VLe.tup ?_ | exact VLe.own | exact VLe.full | exact VLe.nils | exact VLe.any | exact VLe.clo | exact VLe.fn | refine VLe.intE ?_ | refine VLe.boolE ?_ | refine VLe.sliceE ?_ | refine VLe.ownE ?_ | refine VLe.ownO ?_ | refine VLe.fullE ?_ | refine VLe.nilsE ?_))
    rw [dTys_map]; rfl
  · (intro l o h; cases h)
theorem r1_Two_ev (a b : Typ) (ha : a.sz ≤ 1000000) (hb : b.sz ≤ 1000000) : Ev Tryd.prog GL 27 [vTy a, vTy b] [] (vTy (.mk 3 [a, b])) [] := by
  refine ev_of_body (N := 11) (ks := []) (ρ0 := [(0, _), (1, _)]) (σ0 := []) (rs := [.cell 4 30]) Tryd.func27 rfl (by kernel_rfl) rfl rfl rfl rfl rfl rfl rfl rfl rfl rfl (fun E ι0 => ?_)
  refine ac_ts mixed ?_
  refine s_box 2 rfl rfl rfl rfl rfl ?_
  refine s_box 3 rfl rfl rfl rfl rfl ?_
  refine s_alloc 4 zer30 rfl rfl rfl rfl ?_
  refine tr_nil ?_
  refine ac_ds mixed ?_
  first | refine t_load ty30 rfl rfl rfl rfl rfl rfl ?_ | refine s_loadWc ty30 rfl rfl rfl rfl ?_ | refine t_loadN (us := [_, _]) ty30 rfl rfl rfl rfl rfl rfl ?_ | refine t_loadNc (us := [_, _]) ty30 rfl rfl rfl rfl rfl ?_
  first | refine s_callF rfl .rfl (r1_Copy_ev a ha) rfl rfl ?_ | refine s_callF rfl (by (repeat' (first | exact VLes.rfl | exact VLes.nil | exact VLe.rfl | refine VLes.cons ?_ ?_ | exact VLe.own | exact VLe.full | exact VLe.nils | refine VLe.agg ?_ | exact VLe.fullE (dTms_one _) | exact VLe.fullE (dTms_two _ _) | exact VLe.fullE (dTms_three _ _ _) | exact VLe.fullE (dTys_one _) | exact VLe.fullE (dTys_two _ _) | exact VLe.fullE (dTys_three _ _ _)))) (r1_Copy_ev a ha) rfl rfl ?_
  first | refine t_load ty30 rfl rfl rfl rfl rfl rfl ?_ | refine s_loadWc ty30 rfl rfl rfl rfl ?_ | refine t_loadN (us := [_, _]) ty30 rfl rfl rfl rfl rfl rfl ?_ | refine t_loadNc (us := [_, _]) ty30 rfl rfl rfl rfl rfl ?_
  first | refine s_callF rfl .rfl (r1_Copy_ev b hb) rfl rfl ?_ | refine s_callF rfl (by (repeat' (first | exact VLes.rfl | exact VLes.nil | exact VLe.rfl | refine VLes.cons ?_ ?_ | exact VLe.own | exact VLe.full | exact VLe.nils | refine VLe.agg ?_ | exact VLe.fullE (dTms_one _) | exact VLe.fullE (dTms_two _ _) | exact VLe.fullE (dTms_three _ _ _) | exact VLe.fullE (dTys_one _) | exact VLe.fullE (dTys_two _ _) | exact VLe.fullE (dTys_three _ _ _)))) (r1_Copy_ev b hb) rfl rfl ?_
  first | refine t_buildSlice sli27 (Opds.ofL rfl) (.cons (.agg .rfl) (.cons (.agg .rfl) .nil)) (by intro x hx; simp only [List.mem_cons, List.not_mem_nil, or_false] at hx; rcases hx with rfl | rfl <;> rfl) rfl rfl rfl rfl ?_ | refine t_buildSlice sli27 (Opds.ofL rfl) (Elems.ofL rfl) (by intro x hx; simp only [List.mem_cons, List.not_mem_nil, or_false] at hx; rcases hx with rfl | rfl <;> rfl) rfl rfl rfl rfl ?_
  refine s_build (res := [_, _]) zer30 plc30 rfl rfl rfl rfl rfl ?_
  first | refine s_storeW ty30 rfl rfl rfl rfl rfl rfl rfl ?_ | refine s_store (ws := [_, _]) ty30 rfl rfl rfl rfl rfl rfl rfl rfl ?_
  refine tr_nil ⟨by kernel_rfl, ?_⟩
  refine ac_ret ?_
  refine ⟨.inr rfl, _, ⟨_, _, _, _, _, rfl, rfl, rfl, .inl (retAgg ty30 rfl), rfl⟩, ?_, ?_⟩
  · (repeat' (first | exact VLe.rfl | exact VLes.rfl | exact VLes.nil | refine VLes.cons ?_ ?_ | refine VLe.agg ?_ | refine VLe.tup ?_ | exact VLe.own | exact VLe.full | exact VLe.nils | exact VLe.any | exact VLe.clo | exact VLe.fn | refine VLe.intE ?_ | refine VLe.boolE ?_ | refine VLe.sliceE ?_ | refine VLe.ownE ?_ | refine VLe.ownO ?_ | refine VLe.fullE ?_ | refine VLe.nilsE ?_))
    rw [dTys_map]; rfl
  · (intro l o h; cases h)
theorem r1_Nat_ev : Ev Tryd.prog GL 23 [] [] (vTy (.mk 1 [])) [] := by
  refine ev_of_body (N := 2) (ks := []) (ρ0 := []) (σ0 := []) (rs := [.cell 0 30]) Tryd.func23 rfl (by kernel_rfl) rfl rfl rfl rfl rfl rfl rfl rfl rfl rfl (fun E ι0 => ?_)
  refine ac_ts mixed ?_
  refine s_alloc 0 zer30 rfl rfl rfl rfl ?_
  refine tr_nil ?_
  refine ac_ts mixed ?_
  refine s_build (res := [_, _]) zer30 plc30 rfl rfl rfl rfl rfl ?_
  first | refine s_storeW ty30 rfl rfl rfl rfl rfl rfl rfl ?_ | refine s_store (ws := [_, _]) ty30 rfl rfl rfl rfl rfl rfl rfl rfl ?_
  refine tr_nil ?_
  refine ac_ret ?_
  refine ⟨.inr rfl, _, ⟨_, _, _, _, _, rfl, rfl, rfl, .inl (retAgg ty30 rfl), rfl⟩, ?_, ?_⟩
  · (repeat' (first | exact VLe.rfl | exact VLes.rfl | exact VLes.nil | refine VLes.cons ?_ ?_ | refine VLe.agg ?_ | refine VLe.tup ?_ | exact VLe.own | exact VLe.full | exact VLe.nils | exact VLe.any | exact VLe.clo | exact VLe.fn | refine VLe.intE ?_ | refine VLe.boolE ?_ | refine VLe.sliceE ?_ | refine VLe.ownE ?_ | refine VLe.ownO ?_ | refine VLe.fullE ?_ | refine VLe.nilsE ?_))
  · (intro l o h; cases h)
theorem r1_List_ev : Ev Tryd.prog GL 25 [] [] (vTy (.mk 2 [])) [] := by
  refine ev_of_body (N := 2) (ks := []) (ρ0 := []) (σ0 := []) (rs := [.cell 0 30]) Tryd.func25 rfl (by kernel_rfl) rfl rfl rfl rfl rfl rfl rfl rfl rfl rfl (fun E ι0 => ?_)
  refine ac_ts mixed ?_
  refine s_alloc 0 zer30 rfl rfl rfl rfl ?_
  refine tr_nil ?_
  refine ac_ts mixed ?_
  refine s_build (res := [_, _]) zer30 plc30 rfl rfl rfl rfl rfl ?_
  first | refine s_storeW ty30 rfl rfl rfl rfl rfl rfl rfl ?_ | refine s_store (ws := [_, _]) ty30 rfl rfl rfl rfl rfl rfl rfl rfl ?_
  refine tr_nil ?_
  refine ac_ret ?_
  refine ⟨.inr rfl, _, ⟨_, _, _, _, _, rfl, rfl, rfl, .inl (retAgg ty30 rfl), rfl⟩, ?_, ?_⟩
  · (repeat' (first | exact VLe.rfl | exact VLes.rfl | exact VLes.nil | refine VLes.cons ?_ ?_ | refine VLe.agg ?_ | refine VLe.tup ?_ | exact VLe.own | exact VLe.full | exact VLe.nils | exact VLe.any | exact VLe.clo | exact VLe.fn | refine VLe.intE ?_ | refine VLe.boolE ?_ | refine VLe.sliceE ?_ | refine VLe.ownE ?_ | refine VLe.ownO ?_ | refine VLe.fullE ?_ | refine VLe.nilsE ?_))
  · (intro l o h; cases h)
theorem r1_Unit_ev : Ev Tryd.prog GL 26 [] [] (vTy (.mk 5 [])) [] := by
  refine ev_of_body (N := 2) (ks := []) (ρ0 := []) (σ0 := []) (rs := [.cell 0 30]) Tryd.func26 rfl (by kernel_rfl) rfl rfl rfl rfl rfl rfl rfl rfl rfl rfl (fun E ι0 => ?_)
  refine ac_ts mixed ?_
  refine s_alloc 0 zer30 rfl rfl rfl rfl ?_
  refine tr_nil ?_
  refine ac_ts mixed ?_
  refine s_build (res := [_, _]) zer30 plc30 rfl rfl rfl rfl rfl ?_
  first | refine s_storeW ty30 rfl rfl rfl rfl rfl rfl rfl ?_ | refine s_store (ws := [_, _]) ty30 rfl rfl rfl rfl rfl rfl rfl rfl ?_
  refine tr_nil ?_
  refine ac_ret ?_
  refine ⟨.inr rfl, _, ⟨_, _, _, _, _, rfl, rfl, rfl, .inl (retAgg ty30 rfl), rfl⟩, ?_, ?_⟩
  · (repeat' (first | exact VLe.rfl | exact VLes.rfl | exact VLes.nil | refine VLes.cons ?_ ?_ | refine VLe.agg ?_ | refine VLe.tup ?_ | exact VLe.own | exact VLe.full | exact VLe.nils | exact VLe.any | exact VLe.clo | exact VLe.fn | refine VLe.intE ?_ | refine VLe.boolE ?_ | refine VLe.sliceE ?_ | refine VLe.ownE ?_ | refine VLe.ownO ?_ | refine VLe.fullE ?_ | refine VLe.nilsE ?_))
  · (intro l o h; cases h)
end Go.AM

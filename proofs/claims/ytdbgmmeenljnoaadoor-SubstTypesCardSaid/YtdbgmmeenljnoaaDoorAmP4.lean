/-
  Contracts: the second forms of terms.
-/
import Derived.Test.YtdbgmmeenljnoaaDoorAmP3
set_option linter.unusedVariables false
set_option linter.unusedSimpArgs false
set_option maxRecDepth 20000
namespace Go.AM
open Go Go.RowKit Go.Proofs

theorem args_ev (k : Int) : Ev Tryd.prog GL 85 [.d (.int .i64 k)] [] (.d (.int .i64 (match arity k with | some n => (n : Int) | none => -1))) [] := by
  -- live at block 0: 
  -- live at cond 0: t3, t4
  -- live at cond 1: t3, t4
  -- live at cond 2: t3, t4
  -- live at cond 3: 
  -- live at cond 4: t3, t9
  -- live at cond 5: t3, t9
  -- live at cond 6: t3, t9
  -- live at cond 7: 
  -- live at cond 8: t3, t14
  -- live at cond 9: t3, t14
  -- live at cond 10: 
  -- live at cond 11: t18
  -- live at cond 12: 
  refine ev_of_body (N := 21) (ks := []) (ρ0 := [(0, _)]) (σ0 := []) (rs := [.tmp 2]) Tryd.func85 rfl (by kernel_rfl) rfl rfl rfl rfl rfl rfl rfl rfl rfl rfl (fun E ι0 => ?_)
  refine ac_ts mixed ?_
  refine t_assign rfl rfl rfl ?_
  refine tr_nil ?_
  refine ac_seq ?_
  refine ac_ts mixed ?_
  refine t_move rfl rfl rfl ?_
  refine tr_nil ?_
  refine ac_block ?_
  refine ac_seq ?_
  refine ac_ts mixed ?_
  refine t_bin rfl rfl .eql rfl rfl ?_
  refine t_assign rfl rfl rfl ?_
  refine tr_nil ?_
  refine ac_bool (fun hb0 => ?_) (fun hb0 => ?_)
  · refine ac_cond rfl (fun _ => ?_) (fun hb => by cases hb)
    refine ac_skip ?_
    change AC _ _ _ _ _
    refine ac_cond rfl (fun hb => ?_) (fun hb => by cases hb)
    refine ac_ts mixed ?_
    refine t_assign rfl rfl rfl ?_
    refine tr_nil ?_
    refine ac_ret ?_
    refine ⟨.inr rfl, _, ⟨_, _, rfl, rfl, rfl⟩, ?_, ?_⟩
    · rw [show arity k = some 0 by simp_all [arity]]
      (repeat' (first | exact VLe.rfl | exact VLes.rfl | exact VLes.nil | refine VLes.cons ?_ ?_ | refine VLe.agg ?_ | refine VLe.tup ?_ | exact VLe.own | exact VLe.full | exact VLe.nils | exact VLe.any | exact VLe.clo | exact VLe.fn | refine VLe.intE ?_ | refine VLe.boolE ?_ | refine VLe.sliceE ?_ | refine VLe.ownE ?_ | refine VLe.ownO ?_ | refine VLe.fullE ?_ | refine VLe.nilsE ?_))
    · (intro l o h; cases h)
  · refine ac_cond rfl (fun hb => by cases hb) (fun _ => ?_)
    refine ac_ts mixed ?_
    refine t_bin rfl rfl .eql rfl rfl ?_
    refine t_assign rfl rfl rfl ?_
    refine tr_nil ?_
    refine ac_bool (fun hb1 => ?_) (fun hb1 => ?_)
    · refine ac_cond rfl (fun _ => ?_) (fun hb => by cases hb)
      refine ac_skip ?_
      change AC _ _ _ _ _
      refine ac_cond rfl (fun hb => ?_) (fun hb => by cases hb)
      refine ac_ts mixed ?_
      refine t_assign rfl rfl rfl ?_
      refine tr_nil ?_
      refine ac_ret ?_
      refine ⟨.inr rfl, _, ⟨_, _, rfl, rfl, rfl⟩, ?_, ?_⟩
      · rw [show arity k = some 0 by simp_all [arity]]
        (repeat' (first | exact VLe.rfl | exact VLes.rfl | exact VLes.nil | refine VLes.cons ?_ ?_ | refine VLe.agg ?_ | refine VLe.tup ?_ | exact VLe.own | exact VLe.full | exact VLe.nils | exact VLe.any | exact VLe.clo | exact VLe.fn | refine VLe.intE ?_ | refine VLe.boolE ?_ | refine VLe.sliceE ?_ | refine VLe.ownE ?_ | refine VLe.ownO ?_ | refine VLe.fullE ?_ | refine VLe.nilsE ?_))
      · (intro l o h; cases h)
    · refine ac_cond rfl (fun hb => by cases hb) (fun _ => ?_)
      refine ac_ts mixed ?_
      refine t_bin rfl rfl .eql rfl rfl ?_
      refine t_assign rfl rfl rfl ?_
      refine tr_nil ?_
      refine ac_bool (fun hb2 => ?_) (fun hb2 => ?_)
      · refine ac_cond rfl (fun _ => ?_) (fun hb => by cases hb)
        refine ac_skip ?_
        change AC _ _ _ _ _
        refine ac_cond rfl (fun hb => ?_) (fun hb => by cases hb)
        refine ac_ts mixed ?_
        refine t_assign rfl rfl rfl ?_
        refine tr_nil ?_
        refine ac_ret ?_
        refine ⟨.inr rfl, _, ⟨_, _, rfl, rfl, rfl⟩, ?_, ?_⟩
        · rw [show arity k = some 0 by simp_all [arity]]
          (repeat' (first | exact VLe.rfl | exact VLes.rfl | exact VLes.nil | refine VLes.cons ?_ ?_ | refine VLe.agg ?_ | refine VLe.tup ?_ | exact VLe.own | exact VLe.full | exact VLe.nils | exact VLe.any | exact VLe.clo | exact VLe.fn | refine VLe.intE ?_ | refine VLe.boolE ?_ | refine VLe.sliceE ?_ | refine VLe.ownE ?_ | refine VLe.ownO ?_ | refine VLe.fullE ?_ | refine VLe.nilsE ?_))
        · (intro l o h; cases h)
      · refine ac_cond rfl (fun hb => by cases hb) (fun _ => ?_)
        refine ac_t mixed ?_
        refine t_bin rfl rfl .eql rfl rfl ?_
        refine t_assign rfl rfl rfl ?_
        refine tr_nil ?_
        change AC _ _ _ _ _
        refine ac_bool (fun hb3 => ?_) (fun hb3 => ?_)
        · refine ac_cond rfl (fun _ => ?_) (fun hb => by cases hb)
          refine ac_ts mixed ?_
          refine t_assign rfl rfl rfl ?_
          refine tr_nil ?_
          refine ac_ret ?_
          refine ⟨.inr rfl, _, ⟨_, _, rfl, rfl, rfl⟩, ?_, ?_⟩
          · rw [show arity k = some 0 by simp_all [arity]]
            (repeat' (first | exact VLe.rfl | exact VLes.rfl | exact VLes.nil | refine VLes.cons ?_ ?_ | refine VLe.agg ?_ | refine VLe.tup ?_ | exact VLe.own | exact VLe.full | exact VLe.nils | exact VLe.any | exact VLe.clo | exact VLe.fn | refine VLe.intE ?_ | refine VLe.boolE ?_ | refine VLe.sliceE ?_ | refine VLe.ownE ?_ | refine VLe.ownO ?_ | refine VLe.fullE ?_ | refine VLe.nilsE ?_))
          · (intro l o h; cases h)
        · refine ac_cond rfl (fun hb => by cases hb) (fun _ => ?_)
          refine ac_seq ?_
          refine ac_ts mixed ?_
          refine t_bin rfl rfl .eql rfl rfl ?_
          refine t_assign rfl rfl rfl ?_
          refine tr_nil ?_
          refine ac_bool (fun hb4 => ?_) (fun hb4 => ?_)
          · refine ac_cond rfl (fun _ => ?_) (fun hb => by cases hb)
            refine ac_skip ?_
            change AC _ _ _ _ _
            refine ac_cond rfl (fun hb => ?_) (fun hb => by cases hb)
            refine ac_ts mixed ?_
            refine t_assign rfl rfl rfl ?_
            refine tr_nil ?_
            refine ac_ret ?_
            refine ⟨.inr rfl, _, ⟨_, _, rfl, rfl, rfl⟩, ?_, ?_⟩
            · rw [show arity k = some 1 by simp_all [arity]]
              (repeat' (first | exact VLe.rfl | exact VLes.rfl | exact VLes.nil | refine VLes.cons ?_ ?_ | refine VLe.agg ?_ | refine VLe.tup ?_ | exact VLe.own | exact VLe.full | exact VLe.nils | exact VLe.any | exact VLe.clo | exact VLe.fn | refine VLe.intE ?_ | refine VLe.boolE ?_ | refine VLe.sliceE ?_ | refine VLe.ownE ?_ | refine VLe.ownO ?_ | refine VLe.fullE ?_ | refine VLe.nilsE ?_))
            · (intro l o h; cases h)
          · refine ac_cond rfl (fun hb => by cases hb) (fun _ => ?_)
            refine ac_ts mixed ?_
            refine t_bin rfl rfl .eql rfl rfl ?_
            refine t_assign rfl rfl rfl ?_
            refine tr_nil ?_
            refine ac_bool (fun hb5 => ?_) (fun hb5 => ?_)
            · refine ac_cond rfl (fun _ => ?_) (fun hb => by cases hb)
              refine ac_skip ?_
              change AC _ _ _ _ _
              refine ac_cond rfl (fun hb => ?_) (fun hb => by cases hb)
              refine ac_ts mixed ?_
              refine t_assign rfl rfl rfl ?_
              refine tr_nil ?_
              refine ac_ret ?_
              refine ⟨.inr rfl, _, ⟨_, _, rfl, rfl, rfl⟩, ?_, ?_⟩
              · rw [show arity k = some 1 by simp_all [arity]]
                (repeat' (first | exact VLe.rfl | exact VLes.rfl | exact VLes.nil | refine VLes.cons ?_ ?_ | refine VLe.agg ?_ | refine VLe.tup ?_ | exact VLe.own | exact VLe.full | exact VLe.nils | exact VLe.any | exact VLe.clo | exact VLe.fn | refine VLe.intE ?_ | refine VLe.boolE ?_ | refine VLe.sliceE ?_ | refine VLe.ownE ?_ | refine VLe.ownO ?_ | refine VLe.fullE ?_ | refine VLe.nilsE ?_))
              · (intro l o h; cases h)
            · refine ac_cond rfl (fun hb => by cases hb) (fun _ => ?_)
              refine ac_ts mixed ?_
              refine t_bin rfl rfl .eql rfl rfl ?_
              refine t_assign rfl rfl rfl ?_
              refine tr_nil ?_
              refine ac_bool (fun hb6 => ?_) (fun hb6 => ?_)
              · refine ac_cond rfl (fun _ => ?_) (fun hb => by cases hb)
                refine ac_skip ?_
                change AC _ _ _ _ _
                refine ac_cond rfl (fun hb => ?_) (fun hb => by cases hb)
                refine ac_ts mixed ?_
                refine t_assign rfl rfl rfl ?_
                refine tr_nil ?_
                refine ac_ret ?_
                refine ⟨.inr rfl, _, ⟨_, _, rfl, rfl, rfl⟩, ?_, ?_⟩
                · rw [show arity k = some 1 by simp_all [arity]]
                  (repeat' (first | exact VLe.rfl | exact VLes.rfl | exact VLes.nil | refine VLes.cons ?_ ?_ | refine VLe.agg ?_ | refine VLe.tup ?_ | exact VLe.own | exact VLe.full | exact VLe.nils | exact VLe.any | exact VLe.clo | exact VLe.fn | refine VLe.intE ?_ | refine VLe.boolE ?_ | refine VLe.sliceE ?_ | refine VLe.ownE ?_ | refine VLe.ownO ?_ | refine VLe.fullE ?_ | refine VLe.nilsE ?_))
                · (intro l o h; cases h)
              · refine ac_cond rfl (fun hb => by cases hb) (fun _ => ?_)
                refine ac_t mixed ?_
                refine t_bin rfl rfl .eql rfl rfl ?_
                refine t_assign rfl rfl rfl ?_
                refine tr_nil ?_
                change AC _ _ _ _ _
                refine ac_bool (fun hb7 => ?_) (fun hb7 => ?_)
                · refine ac_cond rfl (fun _ => ?_) (fun hb => by cases hb)
                  refine ac_ts mixed ?_
                  refine t_assign rfl rfl rfl ?_
                  refine tr_nil ?_
                  refine ac_ret ?_
                  refine ⟨.inr rfl, _, ⟨_, _, rfl, rfl, rfl⟩, ?_, ?_⟩
                  · rw [show arity k = some 1 by simp_all [arity]]
                    (repeat' (first | exact VLe.rfl | exact VLes.rfl | exact VLes.nil | refine VLes.cons ?_ ?_ | refine VLe.agg ?_ | refine VLe.tup ?_ | exact VLe.own | exact VLe.full | exact VLe.nils | exact VLe.any | exact VLe.clo | exact VLe.fn | refine VLe.intE ?_ | refine VLe.boolE ?_ | refine VLe.sliceE ?_ | refine VLe.ownE ?_ | refine VLe.ownO ?_ | refine VLe.fullE ?_ | refine VLe.nilsE ?_))
                  · (intro l o h; cases h)
                · refine ac_cond rfl (fun hb => by cases hb) (fun _ => ?_)
                  refine ac_seq ?_
                  refine ac_ts mixed ?_
                  refine t_bin rfl rfl .eql rfl rfl ?_
                  refine t_assign rfl rfl rfl ?_
                  refine tr_nil ?_
                  refine ac_bool (fun hb8 => ?_) (fun hb8 => ?_)
                  · refine ac_cond rfl (fun _ => ?_) (fun hb => by cases hb)
                    refine ac_skip ?_
                    change AC _ _ _ _ _
                    refine ac_cond rfl (fun hb => ?_) (fun hb => by cases hb)
                    refine ac_ts mixed ?_
                    refine t_assign rfl rfl rfl ?_
                    refine tr_nil ?_
                    refine ac_ret ?_
                    refine ⟨.inr rfl, _, ⟨_, _, rfl, rfl, rfl⟩, ?_, ?_⟩
                    · rw [show arity k = some 2 by simp_all [arity]]
                      (repeat' (first | exact VLe.rfl | exact VLes.rfl | exact VLes.nil | refine VLes.cons ?_ ?_ | refine VLe.agg ?_ | refine VLe.tup ?_ | exact VLe.own | exact VLe.full | exact VLe.nils | exact VLe.any | exact VLe.clo | exact VLe.fn | refine VLe.intE ?_ | refine VLe.boolE ?_ | refine VLe.sliceE ?_ | refine VLe.ownE ?_ | refine VLe.ownO ?_ | refine VLe.fullE ?_ | refine VLe.nilsE ?_))
                    · (intro l o h; cases h)
                  · refine ac_cond rfl (fun hb => by cases hb) (fun _ => ?_)
                    refine ac_ts mixed ?_
                    refine t_bin rfl rfl .eql rfl rfl ?_
                    refine t_assign rfl rfl rfl ?_
                    refine tr_nil ?_
                    refine ac_bool (fun hb9 => ?_) (fun hb9 => ?_)
                    · refine ac_cond rfl (fun _ => ?_) (fun hb => by cases hb)
                      refine ac_skip ?_
                      change AC _ _ _ _ _
                      refine ac_cond rfl (fun hb => ?_) (fun hb => by cases hb)
                      refine ac_ts mixed ?_
                      refine t_assign rfl rfl rfl ?_
                      refine tr_nil ?_
                      refine ac_ret ?_
                      refine ⟨.inr rfl, _, ⟨_, _, rfl, rfl, rfl⟩, ?_, ?_⟩
                      · rw [show arity k = some 2 by simp_all [arity]]
                        (repeat' (first | exact VLe.rfl | exact VLes.rfl | exact VLes.nil | refine VLes.cons ?_ ?_ | refine VLe.agg ?_ | refine VLe.tup ?_ | exact VLe.own | exact VLe.full | exact VLe.nils | exact VLe.any | exact VLe.clo | exact VLe.fn | refine VLe.intE ?_ | refine VLe.boolE ?_ | refine VLe.sliceE ?_ | refine VLe.ownE ?_ | refine VLe.ownO ?_ | refine VLe.fullE ?_ | refine VLe.nilsE ?_))
                      · (intro l o h; cases h)
                    · refine ac_cond rfl (fun hb => by cases hb) (fun _ => ?_)
                      refine ac_t mixed ?_
                      refine t_bin rfl rfl .eql rfl rfl ?_
                      refine t_assign rfl rfl rfl ?_
                      refine tr_nil ?_
                      change AC _ _ _ _ _
                      refine ac_bool (fun hb10 => ?_) (fun hb10 => ?_)
                      · refine ac_cond rfl (fun _ => ?_) (fun hb => by cases hb)
                        refine ac_ts mixed ?_
                        refine t_assign rfl rfl rfl ?_
                        refine tr_nil ?_
                        refine ac_ret ?_
                        refine ⟨.inr rfl, _, ⟨_, _, rfl, rfl, rfl⟩, ?_, ?_⟩
                        · rw [show arity k = some 2 by simp_all [arity]]
                          (repeat' (first | exact VLe.rfl | exact VLes.rfl | exact VLes.nil | refine VLes.cons ?_ ?_ | refine VLe.agg ?_ | refine VLe.tup ?_ | exact VLe.own | exact VLe.full | exact VLe.nils | exact VLe.any | exact VLe.clo | exact VLe.fn | refine VLe.intE ?_ | refine VLe.boolE ?_ | refine VLe.sliceE ?_ | refine VLe.ownE ?_ | refine VLe.ownO ?_ | refine VLe.fullE ?_ | refine VLe.nilsE ?_))
                        · (intro l o h; cases h)
                      · refine ac_cond rfl (fun hb => by cases hb) (fun _ => ?_)
                        refine ac_seq ?_
                        refine ac_ts mixed ?_
                        refine t_bin rfl rfl .eql rfl rfl ?_
                        refine t_assign rfl rfl rfl ?_
                        refine tr_nil ?_
                        refine ac_bool (fun hb11 => ?_) (fun hb11 => ?_)
                        · refine ac_cond rfl (fun _ => ?_) (fun hb => by cases hb)
                          refine ac_skip ?_
                          change AC _ _ _ _ _
                          refine ac_cond rfl (fun hb => ?_) (fun hb => by cases hb)
                          refine ac_ts mixed ?_
                          refine t_assign rfl rfl rfl ?_
                          refine tr_nil ?_
                          refine ac_ret ?_
                          refine ⟨.inr rfl, _, ⟨_, _, rfl, rfl, rfl⟩, ?_, ?_⟩
                          · rw [show arity k = some 3 by simp_all [arity]]
                            (repeat' (first | exact VLe.rfl | exact VLes.rfl | exact VLes.nil | refine VLes.cons ?_ ?_ | refine VLe.agg ?_ | refine VLe.tup ?_ | exact VLe.own | exact VLe.full | exact VLe.nils | exact VLe.any | exact VLe.clo | exact VLe.fn | refine VLe.intE ?_ | refine VLe.boolE ?_ | refine VLe.sliceE ?_ | refine VLe.ownE ?_ | refine VLe.ownO ?_ | refine VLe.fullE ?_ | refine VLe.nilsE ?_))
                          · (intro l o h; cases h)
                        · refine ac_cond rfl (fun hb => by cases hb) (fun _ => ?_)
                          refine ac_t mixed ?_
                          refine t_bin rfl rfl .eql rfl rfl ?_
                          refine t_assign rfl rfl rfl ?_
                          refine tr_nil ?_
                          change AC _ _ _ _ _
                          refine ac_bool (fun hb12 => ?_) (fun hb12 => ?_)
                          · refine ac_cond rfl (fun _ => ?_) (fun hb => by cases hb)
                            refine ac_ts mixed ?_
                            refine t_assign rfl rfl rfl ?_
                            refine tr_nil ?_
                            refine ac_ret ?_
                            refine ⟨.inr rfl, _, ⟨_, _, rfl, rfl, rfl⟩, ?_, ?_⟩
                            · rw [show arity k = some 3 by simp_all [arity]]
                              (repeat' (first | exact VLe.rfl | exact VLes.rfl | exact VLes.nil | refine VLes.cons ?_ ?_ | refine VLe.agg ?_ | refine VLe.tup ?_ | exact VLe.own | exact VLe.full | exact VLe.nils | exact VLe.any | exact VLe.clo | exact VLe.fn | refine VLe.intE ?_ | refine VLe.boolE ?_ | refine VLe.sliceE ?_ | refine VLe.ownE ?_ | refine VLe.ownO ?_ | refine VLe.fullE ?_ | refine VLe.nilsE ?_))
                            · (intro l o h; cases h)
                          · refine ac_cond rfl (fun hb => by cases hb) (fun _ => ?_)
                            refine ac_skip ?_
                            change AC _ _ _ _ _
                            refine ac_ts mixed ?_
                            refine t_assign rfl rfl rfl ?_
                            refine tr_nil ?_
                            refine ac_ret ?_
                            refine ⟨.inr rfl, _, ⟨_, _, rfl, rfl, rfl⟩, ?_, ?_⟩
                            · rw [show arity k = none by simp_all [arity]]
                              (repeat' (first | exact VLe.rfl | exact VLes.rfl | exact VLes.nil | refine VLes.cons ?_ ?_ | refine VLe.agg ?_ | refine VLe.tup ?_ | exact VLe.own | exact VLe.full | exact VLe.nils | exact VLe.any | exact VLe.clo | exact VLe.fn | refine VLe.intE ?_ | refine VLe.boolE ?_ | refine VLe.sliceE ?_ | refine VLe.ownE ?_ | refine VLe.ownO ?_ | refine VLe.fullE ?_ | refine VLe.nilsE ?_))
                            · (intro l o h; cases h)
theorem r2_Shape_ev (t : Trm) (ht : t.big ≤ 1000000) : Ev Tryd.prog GL 75 [vTm t] [] (.d (.bool t.shape)) [] := by
  induction t using Trm.ind with
  | _ k ix ty l ih =>
  have hl := bigTms_len l
  have hs : bigTms l < 1000000 := by simp [Trm.big] at ht; omega
  have hty : ty.sz ≤ 1000000 := by simp [Trm.big] at ht; omega
  have hlen : l.length ≤ 1000000 := by omega
  show Ev _ _ _ [.agg [.d (.int .i64 k), .d (.int .i64 ix), .d (.int .i64 ty.kind), .d (.slice (dTys ty.args)), .d (.slice (dTms l))]] [] _ []
  -- live at block 0: t1(ptr)
  -- live at block 1: 
  -- live at block 2: t42, t43, t44
  -- live at cond 0: t1(ptr)
  -- live at cond 1: t1(ptr), t33
  -- live at cond 2: t1(ptr), t33
  -- live at cond 3: t1(ptr)
  -- live at cond 4: t1(ptr)
  -- live at cond 5: t1(ptr)
  -- live at cond 6: t42, t43, t44
  -- live at cond 7: t42, t43, t44
  -- live at loop 0: t42, t43, t44
  refine ev_of_body (N := 52) (ks := []) (ρ0 := [(0, _)]) (σ0 := []) (rs := [.tmp 2]) Tryd.func75 rfl (by kernel_rfl) rfl rfl rfl rfl rfl rfl rfl rfl rfl rfl (fun E ι0 => ?_)
  refine ac_ts mixed ?_
  refine s_box 1 rfl rfl rfl rfl rfl ?_
  refine t_assign rfl rfl rfl ?_
  refine tr_nil ?_
  refine ac_join (fun (u : Unit) => ⟨[(1, .ptr 1 0)], [(1, some (.cells [.d (.int .i64 k), .d (.int .i64 ix), .d (.int .i64 ty.kind), .d (.slice (dTys ty.args)), .d (.slice (dTms l))] 34))], [1]⟩) (fun (u : Unit) => arity k = some l.length ∧ 0 ≤ ix ∧ (ix = 0 ∨ k = 1)) ?_ (fun u hj => ?_)
  · refine ac_ds mixed ?_
    first | refine t_fieldAddr fld34_3 rfl rfl rfl ?_ | refine t_fieldAddr_c fld34_3 rfl rfl rfl rfl rfl ?_
    first | refine t_load1 ty32 rfl rfl rfl rfl rfl ?_ | refine t_load1c ty32 rfl rfl rfl rfl ?_
    refine t_len rfl sli32 rfl (by constructor) rfl rfl ?_
    first | refine t_fieldAddr fld34_0 rfl rfl rfl ?_ | refine t_fieldAddr_c fld34_0 rfl rfl rfl rfl rfl ?_
    first | refine t_load1 ty3 rfl rfl rfl rfl rfl ?_ | refine t_load1c ty3 rfl rfl rfl rfl ?_
    first | refine s_callF rfl .rfl (args_ev k) rfl rfl ?_ | refine s_callF rfl (by (repeat' (first | exact VLes.rfl | exact VLes.nil | exact VLe.rfl | refine VLes.cons ?_ ?_ | exact VLe.own | exact VLe.full | exact VLe.nils | refine VLe.agg ?_ | exact VLe.fullE (dTms_one _) | exact VLe.fullE (dTms_two _ _) | exact VLe.fullE (dTms_three _ _ _) | exact VLe.fullE (dTys_one _) | exact VLe.fullE (dTys_two _ _) | exact VLe.fullE (dTys_three _ _ _)))) (args_ev k) rfl rfl ?_
    refine t_bin rfl rfl .neq rfl rfl ?_
    refine t_move rfl rfl rfl ?_
    refine tr_bool (fun h12 => ?_) (fun h12 => ?_)
    · refine t_skip ⟨_, rfl, .inl ⟨_, rfl, rfl⟩⟩ rfl ?_
      refine t_skip ⟨_, rfl, .inl ⟨_, rfl, rfl⟩⟩ rfl ?_
      refine t_skip ⟨_, rfl, .inl ⟨_, rfl, rfl⟩⟩ rfl ?_
      refine t_pick_t rfl rfl rfl rfl rfl ?_
      refine t_move rfl rfl rfl ?_
      refine t_skip ⟨_, rfl, .inl ⟨_, rfl, rfl⟩⟩ rfl ?_
      refine t_skip ⟨_, rfl, .inl ⟨_, rfl, rfl⟩⟩ rfl ?_
      refine t_skip ⟨_, rfl, .inl ⟨_, rfl, rfl⟩⟩ rfl ?_
      refine t_skip ⟨_, rfl, .inl ⟨_, rfl, rfl⟩⟩ rfl ?_
      refine t_skip ⟨_, rfl, .inr ⟨rfl, rfl⟩⟩ rfl ?_
      refine t_skip ⟨_, rfl, .inr ⟨rfl, rfl⟩⟩ rfl ?_
      refine t_skip ⟨_, rfl, .inr ⟨rfl, rfl⟩⟩ rfl ?_
      refine t_skip ⟨_, rfl, .inl ⟨_, rfl, rfl⟩⟩ rfl ?_
      refine t_pick_t rfl rfl rfl rfl rfl ?_
      refine tr_nil ⟨by kernel_rfl, ?_⟩
      refine ac_cond rfl (fun hb => ?_) (fun hb => by cases hb)
      refine ac_ts mixed ?_
      refine t_assign rfl rfl rfl ?_
      refine tr_nil ?_
      refine ac_ret ?_
      refine ⟨.inr rfl, _, ⟨_, _, rfl, rfl, rfl⟩, ?_, ?_⟩
      · have e : (Trm.mk k ix ty l).shape = false := by
          rw [Bool.eq_false_iff]; intro h; rw [Trm.shape_iff] at h; obtain ⟨h1, h2, h3, h4, h5⟩ := h
          first | (simp at h17; omega) | (simp_all [dTms_len]; done) | (simp_all [dTms_len]; omega)
        rw [e]
        (repeat' (first | exact VLe.rfl | exact VLes.rfl | exact VLes.nil | refine VLes.cons ?_ ?_ | refine VLe.agg ?_ | refine VLe.tup ?_ | exact VLe.own | exact VLe.full | exact VLe.nils | exact VLe.any | exact VLe.clo | exact VLe.fn | refine VLe.intE ?_ | refine VLe.boolE ?_ | refine VLe.sliceE ?_ | refine VLe.ownE ?_ | refine VLe.ownO ?_ | refine VLe.fullE ?_ | refine VLe.nilsE ?_))
      · (intro l o h; cases h)
    · first | refine t_fieldAddr fld34_1 rfl ⟨_, rfl, .inl ⟨_, rfl, rfl⟩⟩ rfl ?_ | refine t_fieldAddr_c fld34_1 rfl rfl ⟨_, rfl, .inl ⟨_, rfl, rfl⟩⟩ rfl rfl ?_
      first | refine t_load1 ty3 rfl rfl rfl ⟨_, rfl, .inl ⟨_, rfl, rfl⟩⟩ rfl ?_ | refine t_load1c ty3 rfl rfl ⟨_, rfl, .inl ⟨_, rfl, rfl⟩⟩ rfl ?_
      refine t_bin rfl rfl .lss ⟨_, rfl, .inl ⟨_, rfl, rfl⟩⟩ rfl ?_
      refine t_pick_f rfl rfl rfl rfl rfl ?_
      refine t_move rfl rfl rfl ?_
      refine tr_bool (fun h17 => ?_) (fun h17 => ?_)
      · refine t_skip ⟨_, rfl, .inl ⟨_, rfl, rfl⟩⟩ rfl ?_
        refine t_skip ⟨_, rfl, .inl ⟨_, rfl, rfl⟩⟩ rfl ?_
        refine t_skip ⟨_, rfl, .inl ⟨_, rfl, rfl⟩⟩ rfl ?_
        refine t_skip ⟨_, rfl, .inl ⟨_, rfl, rfl⟩⟩ rfl ?_
        refine t_skip ⟨_, rfl, .inr ⟨rfl, rfl⟩⟩ rfl ?_
        refine t_skip ⟨_, rfl, .inr ⟨rfl, rfl⟩⟩ rfl ?_
        refine t_skip ⟨_, rfl, .inr ⟨rfl, rfl⟩⟩ rfl ?_
        refine t_skip ⟨_, rfl, .inl ⟨_, rfl, rfl⟩⟩ rfl ?_
        refine t_pick_t rfl rfl rfl rfl rfl ?_
        refine tr_nil ⟨by kernel_rfl, ?_⟩
        refine ac_cond rfl (fun hb => ?_) (fun hb => by cases hb)
        refine ac_ts mixed ?_
        refine t_assign rfl rfl rfl ?_
        refine tr_nil ?_
        refine ac_ret ?_
        refine ⟨.inr rfl, _, ⟨_, _, rfl, rfl, rfl⟩, ?_, ?_⟩
        · have e : (Trm.mk k ix ty l).shape = false := by
            rw [Bool.eq_false_iff]; intro h; rw [Trm.shape_iff] at h; obtain ⟨h1, h2, h3, h4, h5⟩ := h
            first | (simp at h17; omega) | (simp_all [dTms_len]; done) | (simp_all [dTms_len]; omega)
          rw [e]
          (repeat' (first | exact VLe.rfl | exact VLes.rfl | exact VLes.nil | refine VLes.cons ?_ ?_ | refine VLe.agg ?_ | refine VLe.tup ?_ | exact VLe.own | exact VLe.full | exact VLe.nils | exact VLe.any | exact VLe.clo | exact VLe.fn | refine VLe.intE ?_ | refine VLe.boolE ?_ | refine VLe.sliceE ?_ | refine VLe.ownE ?_ | refine VLe.ownO ?_ | refine VLe.fullE ?_ | refine VLe.nilsE ?_))
        · (intro l o h; cases h)
      · first | refine t_fieldAddr fld34_0 rfl ⟨_, rfl, .inl ⟨_, rfl, rfl⟩⟩ rfl ?_ | refine t_fieldAddr_c fld34_0 rfl rfl ⟨_, rfl, .inl ⟨_, rfl, rfl⟩⟩ rfl rfl ?_
        first | refine t_load1 ty3 rfl rfl rfl ⟨_, rfl, .inl ⟨_, rfl, rfl⟩⟩ rfl ?_ | refine t_load1c ty3 rfl rfl ⟨_, rfl, .inl ⟨_, rfl, rfl⟩⟩ rfl ?_
        refine t_bin rfl rfl .neq ⟨_, rfl, .inl ⟨_, rfl, rfl⟩⟩ rfl ?_
        refine t_move rfl ⟨_, rfl, .inl ⟨_, rfl, rfl⟩⟩ rfl ?_
        refine tr_bool (fun h21 => ?_) (fun h21 => ?_)
        · first | refine t_fieldAddr fld34_1 rfl ⟨_, rfl, .inl ⟨_, rfl, rfl⟩⟩ rfl ?_ | refine t_fieldAddr_c fld34_1 rfl rfl ⟨_, rfl, .inl ⟨_, rfl, rfl⟩⟩ rfl rfl ?_
          first | refine t_load1 ty3 rfl rfl rfl ⟨_, rfl, .inl ⟨_, rfl, rfl⟩⟩ rfl ?_ | refine t_load1c ty3 rfl rfl ⟨_, rfl, .inl ⟨_, rfl, rfl⟩⟩ rfl ?_
          refine t_bin rfl rfl .neq ⟨_, rfl, .inl ⟨_, rfl, rfl⟩⟩ rfl ?_
          refine t_pick_t rfl rfl rfl ⟨_, rfl, .inl ⟨_, rfl, rfl⟩⟩ rfl ?_
          refine t_pick_f rfl rfl rfl rfl rfl ?_
          refine tr_nil ⟨by kernel_rfl, ?_⟩
          refine ac_bool (fun hb0 => ?_) (fun hb0 => ?_)
          · refine ac_cond rfl (fun _ => ?_) (fun hb => by cases hb)
            refine ac_ts mixed ?_
            refine t_assign rfl rfl rfl ?_
            refine tr_nil ?_
            refine ac_ret ?_
            refine ⟨.inr rfl, _, ⟨_, _, rfl, rfl, rfl⟩, ?_, ?_⟩
            · have e : (Trm.mk k ix ty l).shape = false := by
                rw [Bool.eq_false_iff]; intro h; rw [Trm.shape_iff] at h; obtain ⟨h1, h2, h3, h4, h5⟩ := h
                first | (simp at h17; omega) | (simp_all [dTms_len]; done) | (simp_all [dTms_len]; omega)
              rw [e]
              (repeat' (first | exact VLe.rfl | exact VLes.rfl | exact VLes.nil | refine VLes.cons ?_ ?_ | refine VLe.agg ?_ | refine VLe.tup ?_ | exact VLe.own | exact VLe.full | exact VLe.nils | exact VLe.any | exact VLe.clo | exact VLe.fn | refine VLe.intE ?_ | refine VLe.boolE ?_ | refine VLe.sliceE ?_ | refine VLe.ownE ?_ | refine VLe.ownO ?_ | refine VLe.fullE ?_ | refine VLe.nilsE ?_))
            · (intro l o h; cases h)
          · refine ac_cond rfl (fun hb => by cases hb) (fun _ => ?_)
            refine ac_skip ?_
            show ∃ a, _ ∧ Weak _ _ _
            refine ⟨(), ?_, ?_⟩
            rotate_left
            · (refine weak_of ?_ ?_ rfl rfl rfl <;> (repeat' (first | exact trivial | refine ⟨⟨_, rfl, ?_⟩, ?_⟩ | exact OLe.rfl | refine OLe.cells ?_ | exact VLe.rfl | exact VLes.rfl | exact VLes.nil | refine VLes.cons ?_ ?_ | refine VLe.agg ?_ | refine VLe.tup ?_ | exact VLe.own | exact VLe.full | exact VLe.nils | exact VLe.any | exact VLe.clo | exact VLe.fn | refine VLe.intE ?_ | refine VLe.boolE ?_ | refine VLe.sliceE ?_ | refine VLe.ownE ?_ | refine VLe.ownO ?_ | refine VLe.fullE ?_ | refine VLe.nilsE ?_ | refine OLe.row ?_)))
            · cases ha : arity k with
              | none => simp [ha, dTms_len] at h12 <;> omega
              | some n =>
                  have e : n = l.length := by simp [ha, dTms_len] at h12; omega
                  exact ⟨by rw [e], by simpa using h17, by first | (right; simpa using h21) | (left; simpa using hb0)⟩
        · refine t_skip ⟨_, rfl, .inl ⟨_, rfl, rfl⟩⟩ rfl ?_
          refine t_skip ⟨_, rfl, .inl ⟨_, rfl, rfl⟩⟩ rfl ?_
          refine t_skip ⟨_, rfl, .inl ⟨_, rfl, rfl⟩⟩ rfl ?_
          refine t_pick_f rfl rfl rfl ⟨_, rfl, .inl ⟨_, rfl, rfl⟩⟩ rfl ?_
          refine t_pick_f rfl rfl rfl rfl rfl ?_
          refine tr_nil ⟨by kernel_rfl, ?_⟩
          refine ac_cond rfl (fun hb => by cases hb) (fun hb => ?_)
          refine ac_skip ?_
          show ∃ a, _ ∧ Weak _ _ _
          refine ⟨(), ?_, ?_⟩
          rotate_left
          · (refine weak_of ?_ ?_ rfl rfl rfl <;> (repeat' (first | exact trivial | refine ⟨⟨_, rfl, ?_⟩, ?_⟩ | exact OLe.rfl | refine OLe.cells ?_ | exact VLe.rfl | exact VLes.rfl | exact VLes.nil | refine VLes.cons ?_ ?_ | refine VLe.agg ?_ | refine VLe.tup ?_ | exact VLe.own | exact VLe.full | exact VLe.nils | exact VLe.any | exact VLe.clo | exact VLe.fn | refine VLe.intE ?_ | refine VLe.boolE ?_ | refine VLe.sliceE ?_ | refine VLe.ownE ?_ | refine VLe.ownO ?_ | refine VLe.fullE ?_ | refine VLe.nilsE ?_ | refine OLe.row ?_)))
          · cases ha : arity k with
            | none => simp [ha, dTms_len] at h12 <;> omega
            | some n =>
                have e : n = l.length := by simp [ha, dTms_len] at h12; omega
                exact ⟨by rw [e], by simpa using h17, by first | (right; simpa using h21) | (left; simpa using hb0)⟩
  · skip
    refine ac_join (fun (u : Unit) => ⟨[(1, .ptr 1 0)], [(1, some (.cells [.d (.int .i64 k), .d (.int .i64 ix), .d (.int .i64 ty.kind), .d (.slice (dTys ty.args)), .d (.slice (dTms l))] 34))], [1]⟩) (fun (u : Unit) => (if typed k then ty.okB else ty.none) = true) ?_ (fun u hj => ?_)
    · refine ac_ts mixed ?_
      first | refine t_fieldAddr fld34_0 rfl rfl rfl ?_ | refine t_fieldAddr_c fld34_0 rfl rfl rfl rfl rfl ?_
      first | refine t_load1 ty3 rfl rfl rfl rfl rfl ?_ | refine t_load1c ty3 rfl rfl rfl rfl ?_
      refine tr_nil ?_
      refine ac_block ?_
      refine ac_seq ?_
      refine ac_ts mixed ?_
      refine t_bin rfl rfl .eql rfl rfl ?_
      refine t_assign rfl rfl rfl ?_
      refine tr_nil ?_
      refine ac_bool (fun hb1 => ?_) (fun hb1 => ?_)
      · refine ac_cond rfl (fun _ => ?_) (fun hb => by cases hb)
        refine ac_skip ?_
        change AC _ _ _ _ _
        refine ac_cond rfl (fun hb => ?_) (fun hb => by cases hb)
        refine ac_ts mixed ?_
        first | refine t_fieldAddr fld34_2 rfl rfl rfl ?_ | refine t_fieldAddr_c fld34_2 rfl rfl rfl rfl rfl ?_
        first | refine t_load ty30 rfl rfl rfl rfl rfl rfl ?_ | refine s_loadWc ty30 rfl rfl rfl rfl ?_ | refine t_loadN (us := [_, _]) ty30 rfl rfl rfl rfl rfl rfl ?_ | refine t_loadNc (us := [_, _]) ty30 rfl rfl rfl rfl rfl ?_
        first | refine s_callF rfl .rfl (r1_Check_ev ty hty) rfl rfl ?_ | refine s_callF rfl (by (repeat' (first | exact VLes.rfl | exact VLes.nil | exact VLe.rfl | refine VLes.cons ?_ ?_ | exact VLe.own | exact VLe.full | exact VLe.nils | refine VLe.agg ?_ | exact VLe.fullE (dTms_one _) | exact VLe.fullE (dTms_two _ _) | exact VLe.fullE (dTms_three _ _ _) | exact VLe.fullE (dTys_one _) | exact VLe.fullE (dTys_two _ _) | exact VLe.fullE (dTys_three _ _ _)))) (r1_Check_ev ty hty) rfl rfl ?_
        refine t_bin rfl rfl .neq rfl rfl ?_
        refine tr_nil ?_
        refine ac_bool (fun hb4 => ?_) (fun hb4 => ?_)
        · refine ac_cond rfl (fun _ => ?_) (fun hb => by cases hb)
          refine ac_ts mixed ?_
          refine t_assign rfl rfl rfl ?_
          refine tr_nil ?_
          refine ac_ret ?_
          refine ⟨.inr rfl, _, ⟨_, _, rfl, rfl, rfl⟩, ?_, ?_⟩
          · have e : (Trm.mk k ix ty l).shape = false := by
              rw [Bool.eq_false_iff]; intro h; rw [Trm.shape_iff] at h; obtain ⟨h1, h2, h3, h4, h5⟩ := h
              simp_all [typed, ← Typ.err_ok]
            rw [e]
            (repeat' (first | exact VLe.rfl | exact VLes.rfl | exact VLes.nil | refine VLes.cons ?_ ?_ | refine VLe.agg ?_ | refine VLe.tup ?_ | exact VLe.own | exact VLe.full | exact VLe.nils | exact VLe.any | exact VLe.clo | exact VLe.fn | refine VLe.intE ?_ | refine VLe.boolE ?_ | refine VLe.sliceE ?_ | refine VLe.ownE ?_ | refine VLe.ownO ?_ | refine VLe.fullE ?_ | refine VLe.nilsE ?_))
          · (intro l o h; cases h)
        · refine ac_cond rfl (fun hb => by cases hb) (fun _ => ?_)
          refine ac_skip ?_
          show ∃ a, _ ∧ Weak _ _ _
          refine ⟨(), ?_, ?_⟩
          rotate_left
          · (refine weak_of ?_ ?_ rfl rfl rfl <;> (repeat' (first | exact trivial | refine ⟨⟨_, rfl, ?_⟩, ?_⟩ | exact OLe.rfl | refine OLe.cells ?_ | exact VLe.rfl | exact VLes.rfl | exact VLes.nil | refine VLes.cons ?_ ?_ | refine VLe.agg ?_ | refine VLe.tup ?_ | exact VLe.own | exact VLe.full | exact VLe.nils | exact VLe.any | exact VLe.clo | exact VLe.fn | refine VLe.intE ?_ | refine VLe.boolE ?_ | refine VLe.sliceE ?_ | refine VLe.ownE ?_ | refine VLe.ownO ?_ | refine VLe.fullE ?_ | refine VLe.nilsE ?_ | refine OLe.row ?_)))
          · simp_all [typed, ← Typ.err_ok]
      · refine ac_cond rfl (fun hb => by cases hb) (fun _ => ?_)
        refine ac_ts mixed ?_
        refine t_bin rfl rfl .eql rfl rfl ?_
        refine t_assign rfl rfl rfl ?_
        refine tr_nil ?_
        refine ac_bool (fun hb2 => ?_) (fun hb2 => ?_)
        · refine ac_cond rfl (fun _ => ?_) (fun hb => by cases hb)
          refine ac_skip ?_
          change AC _ _ _ _ _
          refine ac_cond rfl (fun hb => ?_) (fun hb => by cases hb)
          refine ac_ts mixed ?_
          first | refine t_fieldAddr fld34_2 rfl rfl rfl ?_ | refine t_fieldAddr_c fld34_2 rfl rfl rfl rfl rfl ?_
          first | refine t_load ty30 rfl rfl rfl rfl rfl rfl ?_ | refine s_loadWc ty30 rfl rfl rfl rfl ?_ | refine t_loadN (us := [_, _]) ty30 rfl rfl rfl rfl rfl rfl ?_ | refine t_loadNc (us := [_, _]) ty30 rfl rfl rfl rfl rfl ?_
          first | refine s_callF rfl .rfl (r1_Check_ev ty hty) rfl rfl ?_ | refine s_callF rfl (by (repeat' (first | exact VLes.rfl | exact VLes.nil | exact VLe.rfl | refine VLes.cons ?_ ?_ | exact VLe.own | exact VLe.full | exact VLe.nils | refine VLe.agg ?_ | exact VLe.fullE (dTms_one _) | exact VLe.fullE (dTms_two _ _) | exact VLe.fullE (dTms_three _ _ _) | exact VLe.fullE (dTys_one _) | exact VLe.fullE (dTys_two _ _) | exact VLe.fullE (dTys_three _ _ _)))) (r1_Check_ev ty hty) rfl rfl ?_
          refine t_bin rfl rfl .neq rfl rfl ?_
          refine tr_nil ?_
          refine ac_bool (fun hb4 => ?_) (fun hb4 => ?_)
          · refine ac_cond rfl (fun _ => ?_) (fun hb => by cases hb)
            refine ac_ts mixed ?_
            refine t_assign rfl rfl rfl ?_
            refine tr_nil ?_
            refine ac_ret ?_
            refine ⟨.inr rfl, _, ⟨_, _, rfl, rfl, rfl⟩, ?_, ?_⟩
            · have e : (Trm.mk k ix ty l).shape = false := by
                rw [Bool.eq_false_iff]; intro h; rw [Trm.shape_iff] at h; obtain ⟨h1, h2, h3, h4, h5⟩ := h
                simp_all [typed, ← Typ.err_ok]
              rw [e]
              (repeat' (first | exact VLe.rfl | exact VLes.rfl | exact VLes.nil | refine VLes.cons ?_ ?_ | refine VLe.agg ?_ | refine VLe.tup ?_ | exact VLe.own | exact VLe.full | exact VLe.nils | exact VLe.any | exact VLe.clo | exact VLe.fn | refine VLe.intE ?_ | refine VLe.boolE ?_ | refine VLe.sliceE ?_ | refine VLe.ownE ?_ | refine VLe.ownO ?_ | refine VLe.fullE ?_ | refine VLe.nilsE ?_))
            · (intro l o h; cases h)
          · refine ac_cond rfl (fun hb => by cases hb) (fun _ => ?_)
            refine ac_skip ?_
            show ∃ a, _ ∧ Weak _ _ _
            refine ⟨(), ?_, ?_⟩
            rotate_left
            · (refine weak_of ?_ ?_ rfl rfl rfl <;> (repeat' (first | exact trivial | refine ⟨⟨_, rfl, ?_⟩, ?_⟩ | exact OLe.rfl | refine OLe.cells ?_ | exact VLe.rfl | exact VLes.rfl | exact VLes.nil | refine VLes.cons ?_ ?_ | refine VLe.agg ?_ | refine VLe.tup ?_ | exact VLe.own | exact VLe.full | exact VLe.nils | exact VLe.any | exact VLe.clo | exact VLe.fn | refine VLe.intE ?_ | refine VLe.boolE ?_ | refine VLe.sliceE ?_ | refine VLe.ownE ?_ | refine VLe.ownO ?_ | refine VLe.fullE ?_ | refine VLe.nilsE ?_ | refine OLe.row ?_)))
            · simp_all [typed, ← Typ.err_ok]
        · refine ac_cond rfl (fun hb => by cases hb) (fun _ => ?_)
          refine ac_t mixed ?_
          refine t_bin rfl rfl .eql rfl rfl ?_
          refine t_assign rfl rfl rfl ?_
          refine tr_nil ?_
          change AC _ _ _ _ _
          refine ac_bool (fun hb3 => ?_) (fun hb3 => ?_)
          · refine ac_cond rfl (fun _ => ?_) (fun hb => by cases hb)
            refine ac_ts mixed ?_
            first | refine t_fieldAddr fld34_2 rfl rfl rfl ?_ | refine t_fieldAddr_c fld34_2 rfl rfl rfl rfl rfl ?_
            first | refine t_load ty30 rfl rfl rfl rfl rfl rfl ?_ | refine s_loadWc ty30 rfl rfl rfl rfl ?_ | refine t_loadN (us := [_, _]) ty30 rfl rfl rfl rfl rfl rfl ?_ | refine t_loadNc (us := [_, _]) ty30 rfl rfl rfl rfl rfl ?_
            first | refine s_callF rfl .rfl (r1_Check_ev ty hty) rfl rfl ?_ | refine s_callF rfl (by (repeat' (first | exact VLes.rfl | exact VLes.nil | exact VLe.rfl | refine VLes.cons ?_ ?_ | exact VLe.own | exact VLe.full | exact VLe.nils | refine VLe.agg ?_ | exact VLe.fullE (dTms_one _) | exact VLe.fullE (dTms_two _ _) | exact VLe.fullE (dTms_three _ _ _) | exact VLe.fullE (dTys_one _) | exact VLe.fullE (dTys_two _ _) | exact VLe.fullE (dTys_three _ _ _)))) (r1_Check_ev ty hty) rfl rfl ?_
            refine t_bin rfl rfl .neq rfl rfl ?_
            refine tr_nil ?_
            refine ac_bool (fun hb4 => ?_) (fun hb4 => ?_)
            · refine ac_cond rfl (fun _ => ?_) (fun hb => by cases hb)
              refine ac_ts mixed ?_
              refine t_assign rfl rfl rfl ?_
              refine tr_nil ?_
              refine ac_ret ?_
              refine ⟨.inr rfl, _, ⟨_, _, rfl, rfl, rfl⟩, ?_, ?_⟩
              · have e : (Trm.mk k ix ty l).shape = false := by
                  rw [Bool.eq_false_iff]; intro h; rw [Trm.shape_iff] at h; obtain ⟨h1, h2, h3, h4, h5⟩ := h
                  simp_all [typed, ← Typ.err_ok]
                rw [e]
                (repeat' (first | exact VLe.rfl | exact VLes.rfl | exact VLes.nil | refine VLes.cons ?_ ?_ | refine VLe.agg ?_ | refine VLe.tup ?_ | exact VLe.own | exact VLe.full | exact VLe.nils | exact VLe.any | exact VLe.clo | exact VLe.fn | refine VLe.intE ?_ | refine VLe.boolE ?_ | refine VLe.sliceE ?_ | refine VLe.ownE ?_ | refine VLe.ownO ?_ | refine VLe.fullE ?_ | refine VLe.nilsE ?_))
              · (intro l o h; cases h)
            · refine ac_cond rfl (fun hb => by cases hb) (fun _ => ?_)
              refine ac_skip ?_
              show ∃ a, _ ∧ Weak _ _ _
              refine ⟨(), ?_, ?_⟩
              rotate_left
              · (refine weak_of ?_ ?_ rfl rfl rfl <;> (repeat' (first | exact trivial | refine ⟨⟨_, rfl, ?_⟩, ?_⟩ | exact OLe.rfl | refine OLe.cells ?_ | exact VLe.rfl | exact VLes.rfl | exact VLes.nil | refine VLes.cons ?_ ?_ | refine VLe.agg ?_ | refine VLe.tup ?_ | exact VLe.own | exact VLe.full | exact VLe.nils | exact VLe.any | exact VLe.clo | exact VLe.fn | refine VLe.intE ?_ | refine VLe.boolE ?_ | refine VLe.sliceE ?_ | refine VLe.ownE ?_ | refine VLe.ownO ?_ | refine VLe.fullE ?_ | refine VLe.nilsE ?_ | refine OLe.row ?_)))
              · simp_all [typed, ← Typ.err_ok]
          · refine ac_cond rfl (fun hb => by cases hb) (fun _ => ?_)
            refine ac_ts mixed ?_
            first | refine t_fieldAddr fld34_2 rfl rfl rfl ?_ | refine t_fieldAddr_c fld34_2 rfl rfl rfl rfl rfl ?_
            first | refine t_load ty30 rfl rfl rfl rfl rfl rfl ?_ | refine s_loadWc ty30 rfl rfl rfl rfl ?_ | refine t_loadN (us := [_, _]) ty30 rfl rfl rfl rfl rfl rfl ?_ | refine t_loadNc (us := [_, _]) ty30 rfl rfl rfl rfl rfl ?_
            first | refine s_callF rfl .rfl (r1_Zero_ev ty) rfl rfl ?_ | refine s_callF rfl (by (repeat' (first | exact VLes.rfl | exact VLes.nil | exact VLe.rfl | refine VLes.cons ?_ ?_ | exact VLe.own | exact VLe.full | exact VLe.nils | refine VLe.agg ?_ | exact VLe.fullE (dTms_one _) | exact VLe.fullE (dTms_two _ _) | exact VLe.fullE (dTms_three _ _ _) | exact VLe.fullE (dTys_one _) | exact VLe.fullE (dTys_two _ _) | exact VLe.fullE (dTys_three _ _ _)))) (r1_Zero_ev ty) rfl rfl ?_
            refine t_not rfl rfl rfl ?_
            refine tr_nil ?_
            refine ac_bool (fun hb5 => ?_) (fun hb5 => ?_)
            · refine ac_cond rfl (fun _ => ?_) (fun hb => by cases hb)
              refine ac_ts mixed ?_
              refine t_assign rfl rfl rfl ?_
              refine tr_nil ?_
              refine ac_ret ?_
              refine ⟨.inr rfl, _, ⟨_, _, rfl, rfl, rfl⟩, ?_, ?_⟩
              · have e : (Trm.mk k ix ty l).shape = false := by
                  rw [Bool.eq_false_iff]; intro h; rw [Trm.shape_iff] at h; obtain ⟨h1, h2, h3, h4, h5⟩ := h
                  simp_all [typed, ← Typ.err_ok]
                rw [e]
                (repeat' (first | exact VLe.rfl | exact VLes.rfl | exact VLes.nil | refine VLes.cons ?_ ?_ | refine VLe.agg ?_ | refine VLe.tup ?_ | exact VLe.own | exact VLe.full | exact VLe.nils | exact VLe.any | exact VLe.clo | exact VLe.fn | refine VLe.intE ?_ | refine VLe.boolE ?_ | refine VLe.sliceE ?_ | refine VLe.ownE ?_ | refine VLe.ownO ?_ | refine VLe.fullE ?_ | refine VLe.nilsE ?_))
              · (intro l o h; cases h)
            · refine ac_cond rfl (fun hb => by cases hb) (fun _ => ?_)
              refine ac_skip ?_
              show ∃ a, _ ∧ Weak _ _ _
              refine ⟨(), ?_, ?_⟩
              rotate_left
              · (refine weak_of ?_ ?_ rfl rfl rfl <;> (repeat' (first | exact trivial | refine ⟨⟨_, rfl, ?_⟩, ?_⟩ | exact OLe.rfl | refine OLe.cells ?_ | exact VLe.rfl | exact VLes.rfl | exact VLes.nil | refine VLes.cons ?_ ?_ | refine VLe.agg ?_ | refine VLe.tup ?_ | exact VLe.own | exact VLe.full | exact VLe.nils | exact VLe.any | exact VLe.clo | exact VLe.fn | refine VLe.intE ?_ | refine VLe.boolE ?_ | refine VLe.sliceE ?_ | refine VLe.ownE ?_ | refine VLe.ownO ?_ | refine VLe.fullE ?_ | refine VLe.nilsE ?_ | refine OLe.row ?_)))
              · simp_all [typed, ← Typ.err_ok]
    · rename_i hj0
      refine ac_seq ?_
      refine ac_ts mixed ?_
      first | refine t_fieldAddr fld34_3 rfl rfl rfl ?_ | refine t_fieldAddr_c fld34_3 rfl rfl rfl rfl rfl ?_
      first | refine t_load1 ty32 rfl rfl rfl rfl rfl ?_ | refine t_load1c ty32 rfl rfl rfl rfl ?_
      refine t_len rfl sli32 rfl (by constructor) rfl rfl ?_
      refine t_move rfl rfl rfl ?_
      refine tr_nil ?_
      refine ac_range mixed ((dTms l).length) (fun i => [(42, .d (.slice (dTms l)))]) (fun i => []) (fun i => []) (fun i => ∀ (j : Nat) a, j < i → l[j]? = some a → a.shape = true) (by simp) ?_ (by first | omega | (simp only [dTys_len, dTms_len, dInts_len, List.length_append, List.length_cons, List.length_nil, List.length_take]; omega)) rfl (fun i => ⟨rfl, rfl⟩) (fun i hi hI => ?_) (fun hI => ?_)
      · (refine weak_of ?_ ?_ rfl rfl rfl <;> (repeat' (first | exact trivial | refine ⟨⟨_, rfl, ?_⟩, ?_⟩ | exact OLe.rfl | refine OLe.cells ?_ | exact VLe.rfl | exact VLes.rfl | exact VLes.nil | refine VLes.cons ?_ ?_ | refine VLe.agg ?_ | refine VLe.tup ?_ | exact VLe.own | exact VLe.full | exact VLe.nils | exact VLe.any | exact VLe.clo | exact VLe.fn | refine VLe.intE ?_ | refine VLe.boolE ?_ | refine VLe.sliceE ?_ | refine VLe.ownE ?_ | refine VLe.ownO ?_ | refine VLe.fullE ?_ | refine VLe.nilsE ?_ | refine OLe.row ?_)))
      · rw [dTms_len] at hi
        have hg : l[i]? = some l[i] := List.getElem?_eq_getElem hi
        have hget := dTms_get hg
        have hm := List.getElem_mem hi
        have hsz := bigTms_mem hm
        refine ac_ts mixed ?_
        refine t_indexAddr sli32 rfl (by constructor) rfl (Int.natCast_nonneg _) hget rfl rfl rfl ?_
        first | refine t_load ty34 rfl rfl rfl rfl rfl rfl ?_ | refine s_loadWc ty34 rfl rfl rfl rfl ?_ | refine t_loadN (us := [_, _, _, _, _]) ty34 rfl rfl rfl rfl rfl rfl ?_ | refine t_loadNc (us := [_, _, _, _, _]) ty34 rfl rfl rfl rfl rfl ?_
        refine s_alloc 4 zer34 rfl rfl rfl rfl ?_
        first | refine s_storeW ty34 rfl rfl rfl rfl rfl rfl rfl ?_ | refine s_store (ws := [_, _, _, _, _]) ty34 rfl rfl rfl rfl rfl rfl rfl rfl ?_
        refine tr_nil ?_
        refine ac_ts mixed ?_
        first | refine t_load ty34 rfl rfl rfl rfl rfl rfl ?_ | refine s_loadWc ty34 rfl rfl rfl rfl ?_ | refine t_loadN (us := [_, _, _, _, _]) ty34 rfl rfl rfl rfl rfl rfl ?_ | refine t_loadNc (us := [_, _, _, _, _]) ty34 rfl rfl rfl rfl rfl ?_
        first | refine s_callF rfl .rfl (ih _ hm (by omega)) rfl rfl ?_ | refine s_callF rfl (by (repeat' (first | exact VLes.rfl | exact VLes.nil | exact VLe.rfl | refine VLes.cons ?_ ?_ | exact VLe.own | exact VLe.full | exact VLe.nils | refine VLe.agg ?_ | exact VLe.fullE (dTms_one _) | exact VLe.fullE (dTms_two _ _) | exact VLe.fullE (dTms_three _ _ _) | exact VLe.fullE (dTys_one _) | exact VLe.fullE (dTys_two _ _) | exact VLe.fullE (dTys_three _ _ _)))) (ih _ hm (by omega)) rfl rfl ?_
        refine t_not rfl rfl rfl ?_
        refine tr_nil ?_
        refine ac_bool (fun hb7 => ?_) (fun hb7 => ?_)
        · refine ac_cond rfl (fun _ => ?_) (fun hb => by cases hb)
          refine ac_ts mixed ?_
          refine t_assign rfl rfl rfl ?_
          refine tr_nil ?_
          refine ac_ret ?_
          refine ⟨.inr rfl, _, ⟨_, _, rfl, rfl, rfl⟩, ?_, ?_⟩
          · have e : (Trm.mk k ix ty l).shape = false := by
              rw [Bool.eq_false_iff]; intro h; rw [Trm.shape_iff] at h; obtain ⟨h1, h2, h3, h4, h5⟩ := h
              simp [h5 _ hm] at hb7
            rw [e]
            (repeat' (first | exact VLe.rfl | exact VLes.rfl | exact VLes.nil | refine VLes.cons ?_ ?_ | refine VLe.agg ?_ | refine VLe.tup ?_ | exact VLe.own | exact VLe.full | exact VLe.nils | exact VLe.any | exact VLe.clo | exact VLe.fn | refine VLe.intE ?_ | refine VLe.boolE ?_ | refine VLe.sliceE ?_ | refine VLe.ownE ?_ | refine VLe.ownO ?_ | refine VLe.fullE ?_ | refine VLe.nilsE ?_))
          · (intro l o h; cases h)
        · refine ac_cond rfl (fun hb => by cases hb) (fun _ => ?_)
          refine ac_skip ?_
          show _ ∧ Weak _ _ _
          refine ⟨fun j a hj ha => by
             by_cases e : j = i
             · subst e; rw [hg] at ha; injection ha with ha; subst ha; simpa using hb7
             · exact hI j a (by omega) ha, ?_⟩
          (refine weak_of ?_ ?_ rfl rfl rfl <;> (repeat' (first | exact trivial | refine ⟨⟨_, rfl, ?_⟩, ?_⟩ | exact OLe.rfl | refine OLe.cells ?_ | exact VLe.rfl | exact VLes.rfl | exact VLes.nil | refine VLes.cons ?_ ?_ | refine VLe.agg ?_ | refine VLe.tup ?_ | exact VLe.own | exact VLe.full | exact VLe.nils | exact VLe.any | exact VLe.clo | exact VLe.fn | refine VLe.intE ?_ | refine VLe.boolE ?_ | refine VLe.sliceE ?_ | refine VLe.ownE ?_ | refine VLe.ownO ?_ | refine VLe.fullE ?_ | refine VLe.nilsE ?_ | refine OLe.row ?_)))
      · skip
        change AC _ _ _ _ _
        refine ac_ts mixed ?_
        refine t_assign rfl rfl rfl ?_
        refine tr_nil ?_
        refine ac_ret ?_
        refine ⟨.inr rfl, _, ⟨_, _, rfl, rfl, rfl⟩, ?_, ?_⟩
        · have e1 : (Trm.mk k ix ty l).shape = true := by
            rw [Trm.shape_iff]
            refine ⟨hj0.1, hj0.2.1, hj0.2.2, hj, fun a ha => ?_⟩
            obtain ⟨j, h1, h2⟩ := List.getElem_of_mem ha
            exact hI j a (by rw [dTms_len]; omega) (by rw [List.getElem?_eq_getElem h1, h2])
          rw [e1]
          (repeat' (first | exact VLe.rfl | exact VLes.rfl | exact VLes.nil | refine VLes.cons ?_ ?_ | refine VLe.agg ?_ | refine VLe.tup ?_ | exact VLe.own | exact VLe.full | exact VLe.nils | exact VLe.any | exact VLe.clo | exact VLe.fn | refine VLe.intE ?_ | refine VLe.boolE ?_ | refine VLe.sliceE ?_ | refine VLe.ownE ?_ | refine VLe.ownO ?_ | refine VLe.fullE ?_ | refine VLe.nilsE ?_))
        · (intro l o h; cases h)
theorem r2_Count_ev (t : Trm) (ht : t.big ≤ 1000000) : Ev Tryd.prog GL 76 [vTm t] [] (.d (.int .i64 (t.sz : Nat))) [] := by
  induction t using Trm.ind with
  | _ k ix ty l ih =>
  have hl := bigTms_len l
  have hs : bigTms l < 1000000 := by simp [Trm.big] at ht; omega
  have hlen : l.length ≤ 1000000 := by omega
  show Ev _ _ _ [.agg [.d (.int .i64 k), .d (.int .i64 ix), .d (.int .i64 ty.kind), .d (.slice (dTys ty.args)), .d (.slice (dTms l))]] [] (.d (.int .i64 ((1 + szTms l : Nat) : Int))) []
  -- live at block 0: t3
  -- live at block 1: t3, t7, t8, t9
  -- live at cond 0: t3, t7, t8, t9
  -- live at loop 0: t3, t7, t8, t9
  refine ev_of_body (N := 19) (ks := []) (ρ0 := [(0, _)]) (σ0 := []) (rs := [.tmp 2]) Tryd.func76 rfl (by kernel_rfl) rfl rfl rfl rfl rfl rfl rfl rfl rfl rfl (fun E ι0 => ?_)
  refine ac_ts mixed ?_
  refine s_box 1 rfl rfl rfl rfl rfl ?_
  refine t_assign rfl rfl rfl ?_
  refine tr_nil ?_
  refine ac_ts mixed ?_
  refine t_assign rfl rfl rfl ?_
  refine tr_nil ?_
  refine ac_seq ?_
  refine ac_ts mixed ?_
  first | refine t_fieldAddr fld34_3 rfl rfl rfl ?_ | refine t_fieldAddr_c fld34_3 rfl rfl rfl rfl rfl ?_
  first | refine t_load1 ty32 rfl rfl rfl rfl rfl ?_ | refine t_load1c ty32 rfl rfl rfl rfl ?_
  refine t_len rfl sli32 rfl (by constructor) rfl rfl ?_
  refine t_move rfl rfl rfl ?_
  refine tr_nil ?_
  refine ac_range mixed ((dTms l).length) (fun i => [(3, .d (.int .i64 ((1 + szTms (l.take i) : Nat) : Int))), (7, .d (.slice (dTms l)))]) (fun i => []) (fun i => []) (fun i => True) trivial ?_ (by first | omega | (simp only [dTys_len, dTms_len, dInts_len, List.length_append, List.length_cons, List.length_nil, List.length_take]; omega)) rfl (fun i => ⟨rfl, rfl⟩) (fun i hi hI => ?_) (fun hI => ?_)
  · (refine weak_of ?_ ?_ rfl rfl rfl <;> (repeat' (first | exact trivial | refine ⟨⟨_, rfl, ?_⟩, ?_⟩ | exact OLe.rfl | refine OLe.cells ?_ | exact VLe.rfl | exact VLes.rfl | exact VLes.nil | refine VLes.cons ?_ ?_ | refine VLe.agg ?_ | refine VLe.tup ?_ | exact VLe.own | exact VLe.full | exact VLe.nils | exact VLe.any | exact VLe.clo | exact VLe.fn | refine VLe.intE ?_ | refine VLe.boolE ?_ | refine VLe.sliceE ?_ | refine VLe.ownE ?_ | refine VLe.ownO ?_ | refine VLe.fullE ?_ | refine VLe.nilsE ?_ | refine OLe.row ?_)))
  · rw [dTms_len] at hi
    have hg : l[i]? = some l[i] := List.getElem?_eq_getElem hi
    have hget := dTms_get hg
    have hm := List.getElem_mem hi
    have hsz := bigTms_mem hm
    refine ac_ts mixed ?_
    refine t_indexAddr sli32 rfl (by constructor) rfl (Int.natCast_nonneg _) hget rfl rfl rfl ?_
    first | refine t_load ty34 rfl rfl rfl rfl rfl rfl ?_ | refine s_loadWc ty34 rfl rfl rfl rfl ?_ | refine t_loadN (us := [_, _, _, _, _]) ty34 rfl rfl rfl rfl rfl rfl ?_ | refine t_loadNc (us := [_, _, _, _, _]) ty34 rfl rfl rfl rfl rfl ?_
    refine s_alloc 5 zer34 rfl rfl rfl rfl ?_
    first | refine s_storeW ty34 rfl rfl rfl rfl rfl rfl rfl ?_ | refine s_store (ws := [_, _, _, _, _]) ty34 rfl rfl rfl rfl rfl rfl rfl rfl ?_
    refine tr_nil ?_
    refine ac_t mixed ?_
    refine t_move rfl rfl rfl ?_
    first | refine t_load ty34 rfl rfl rfl rfl rfl rfl ?_ | refine s_loadWc ty34 rfl rfl rfl rfl ?_ | refine t_loadN (us := [_, _, _, _, _]) ty34 rfl rfl rfl rfl rfl rfl ?_ | refine t_loadNc (us := [_, _, _, _, _]) ty34 rfl rfl rfl rfl rfl ?_
    first | refine s_callF rfl .rfl (ih _ hm (by omega)) rfl rfl ?_ | refine s_callF rfl (by (repeat' (first | exact VLes.rfl | exact VLes.nil | exact VLe.rfl | refine VLes.cons ?_ ?_ | exact VLe.own | exact VLe.full | exact VLe.nils | refine VLe.agg ?_ | exact VLe.fullE (dTms_one _) | exact VLe.fullE (dTms_two _ _) | exact VLe.fullE (dTms_three _ _ _) | exact VLe.fullE (dTys_one _) | exact VLe.fullE (dTys_two _ _) | exact VLe.fullE (dTys_three _ _ _)))) (ih _ hm (by omega)) rfl rfl ?_
    refine t_bin rfl rfl .add rfl rfl ?_
    refine t_assign rfl rfl rfl ?_
    refine tr_nil ?_
    show _ ∧ Weak _ _ _
    refine ⟨trivial, ?_⟩
    have e2 := szTms_take_le l (i + 1)
    have e3 := szTms_le_big l (fun a _ => a.sz_le_big)
    rw [szTms_take_succ hg] at e2
    rw [szTms_take_succ hg]
    (refine weak_of ?_ ?_ rfl rfl rfl <;> (repeat' (first | exact trivial | refine ⟨⟨_, rfl, ?_⟩, ?_⟩ | exact OLe.rfl | refine OLe.cells ?_ | exact VLe.rfl | exact VLes.rfl | exact VLes.nil | refine VLes.cons ?_ ?_ | refine VLe.agg ?_ | refine VLe.tup ?_ | exact VLe.own | exact VLe.full | exact VLe.nils | exact VLe.any | exact VLe.clo | exact VLe.fn | refine VLe.intE ?_ | refine VLe.boolE ?_ | refine VLe.sliceE ?_ | refine VLe.ownE ?_ | refine VLe.ownO ?_ | refine VLe.fullE ?_ | refine VLe.nilsE ?_ | refine OLe.row ?_)))
    rw [i64_id (by omega) (by omega)]; omega
  · skip
    change AC _ _ _ _ _
    refine ac_ts mixed ?_
    refine t_move rfl rfl rfl ?_
    refine t_assign rfl rfl rfl ?_
    refine tr_nil ?_
    refine ac_ret ?_
    refine ⟨.inr rfl, _, ⟨_, _, rfl, rfl, rfl⟩, ?_, ?_⟩
    · (repeat' (first | exact VLe.rfl | exact VLes.rfl | exact VLes.nil | refine VLes.cons ?_ ?_ | refine VLe.agg ?_ | refine VLe.tup ?_ | exact VLe.own | exact VLe.full | exact VLe.nils | exact VLe.any | exact VLe.clo | exact VLe.fn | refine VLe.intE ?_ | refine VLe.boolE ?_ | refine VLe.sliceE ?_ | refine VLe.ownE ?_ | refine VLe.ownO ?_ | refine VLe.fullE ?_ | refine VLe.nilsE ?_))
      rw [dTms_len, List.take_length]
    · (intro l o h; cases h)
theorem r2_Check_ev (t : Trm) (ht : t.big ≤ 1000000) : Ev Tryd.prog GL 62 [vTm t] [] (.d (.int .i64 t.err)) [] := by
  -- live at cond 0: t1(ptr)
  -- live at cond 1: 
  refine ev_of_body (N := 9) (ks := []) (ρ0 := [(0, _)]) (σ0 := []) (rs := [.tmp 2]) Tryd.func62 rfl (by kernel_rfl) rfl rfl rfl rfl rfl rfl rfl rfl rfl rfl (fun E ι0 => ?_)
  refine ac_ts mixed ?_
  refine s_box 1 rfl rfl rfl rfl rfl ?_
  refine t_assign rfl rfl rfl ?_
  refine tr_nil ?_
  refine ac_seq ?_
  refine ac_ts mixed ?_
  first | refine t_load ty34 rfl rfl rfl rfl rfl rfl ?_ | refine s_loadWc ty34 rfl rfl rfl rfl ?_ | refine t_loadN (us := [_, _, _, _, _]) ty34 rfl rfl rfl rfl rfl rfl ?_ | refine t_loadNc (us := [_, _, _, _, _]) ty34 rfl rfl rfl rfl rfl ?_
  first | refine s_callF rfl .rfl (r2_Shape_ev t ht) rfl rfl ?_ | refine s_callF rfl (by (repeat' (first | exact VLes.rfl | exact VLes.nil | exact VLe.rfl | refine VLes.cons ?_ ?_ | exact VLe.own | exact VLe.full | exact VLe.nils | refine VLe.agg ?_ | exact VLe.fullE (dTms_one _) | exact VLe.fullE (dTms_two _ _) | exact VLe.fullE (dTms_three _ _ _) | exact VLe.fullE (dTys_one _) | exact VLe.fullE (dTys_two _ _) | exact VLe.fullE (dTys_three _ _ _)))) (r2_Shape_ev t ht) rfl rfl ?_
  refine t_not rfl rfl rfl ?_
  refine tr_nil ?_
  refine ac_bool (fun hb0 => ?_) (fun hb0 => ?_)
  · refine ac_cond rfl (fun _ => ?_) (fun hb => by cases hb)
    refine ac_ts mixed ?_
    refine t_assign rfl rfl rfl ?_
    refine tr_nil ?_
    refine ac_ret ?_
    refine ⟨.inr rfl, _, ⟨_, _, rfl, rfl, rfl⟩, ?_, ?_⟩
    · have e : t.err = 2 := by simp_all [Trm.err]
      rw [e]
      (repeat' (first | exact VLe.rfl | exact VLes.rfl | exact VLes.nil | refine VLes.cons ?_ ?_ | refine VLe.agg ?_ | refine VLe.tup ?_ | exact VLe.own | exact VLe.full | exact VLe.nils | exact VLe.any | exact VLe.clo | exact VLe.fn | refine VLe.intE ?_ | refine VLe.boolE ?_ | refine VLe.sliceE ?_ | refine VLe.ownE ?_ | refine VLe.ownO ?_ | refine VLe.fullE ?_ | refine VLe.nilsE ?_))
    · (intro l o h; cases h)
  · refine ac_cond rfl (fun hb => by cases hb) (fun _ => ?_)
    refine ac_skip ?_
    change AC _ _ _ _ _
    refine ac_seq ?_
    refine ac_ts mixed ?_
    first | refine t_load ty34 rfl rfl rfl rfl rfl rfl ?_ | refine s_loadWc ty34 rfl rfl rfl rfl ?_ | refine t_loadN (us := [_, _, _, _, _]) ty34 rfl rfl rfl rfl rfl rfl ?_ | refine t_loadNc (us := [_, _, _, _, _]) ty34 rfl rfl rfl rfl rfl ?_
    first | refine s_callF rfl .rfl (r2_Count_ev t ht) rfl rfl ?_ | refine s_callF rfl (by (repeat' (first | exact VLes.rfl | exact VLes.nil | exact VLe.rfl | refine VLes.cons ?_ ?_ | exact VLe.own | exact VLe.full | exact VLe.nils | refine VLe.agg ?_ | exact VLe.fullE (dTms_one _) | exact VLe.fullE (dTms_two _ _) | exact VLe.fullE (dTms_three _ _ _) | exact VLe.fullE (dTys_one _) | exact VLe.fullE (dTys_two _ _) | exact VLe.fullE (dTys_three _ _ _)))) (r2_Count_ev t ht) rfl rfl ?_
    refine t_bin rfl rfl .gtr rfl rfl ?_
    refine tr_nil ?_
    refine ac_bool (fun hb1 => ?_) (fun hb1 => ?_)
    · refine ac_cond rfl (fun _ => ?_) (fun hb => by cases hb)
      refine ac_ts mixed ?_
      refine t_assign rfl rfl rfl ?_
      refine tr_nil ?_
      refine ac_ret ?_
      refine ⟨.inr rfl, _, ⟨_, _, rfl, rfl, rfl⟩, ?_, ?_⟩
      · have e : t.err = 4 := by simp_all [Trm.err]; omega
        rw [e]
        (repeat' (first | exact VLe.rfl | exact VLes.rfl | exact VLes.nil | refine VLes.cons ?_ ?_ | refine VLe.agg ?_ | refine VLe.tup ?_ | exact VLe.own | exact VLe.full | exact VLe.nils | exact VLe.any | exact VLe.clo | exact VLe.fn | refine VLe.intE ?_ | refine VLe.boolE ?_ | refine VLe.sliceE ?_ | refine VLe.ownE ?_ | refine VLe.ownO ?_ | refine VLe.fullE ?_ | refine VLe.nilsE ?_))
      · (intro l o h; cases h)
    · refine ac_cond rfl (fun hb => by cases hb) (fun _ => ?_)
      refine ac_skip ?_
      change AC _ _ _ _ _
      refine ac_ts mixed ?_
      refine t_assign rfl rfl rfl ?_
      refine tr_nil ?_
      refine ac_ret ?_
      refine ⟨.inr rfl, _, ⟨_, _, rfl, rfl, rfl⟩, ?_, ?_⟩
      · have e : t.err = 0 := by simp_all [Trm.err]; omega
        rw [e]
        (repeat' (first | exact VLe.rfl | exact VLes.rfl | exact VLes.nil | refine VLes.cons ?_ ?_ | refine VLe.agg ?_ | refine VLe.tup ?_ | exact VLe.own | exact VLe.full | exact VLe.nils | exact VLe.any | exact VLe.clo | exact VLe.fn | refine VLe.intE ?_ | refine VLe.boolE ?_ | refine VLe.sliceE ?_ | refine VLe.ownE ?_ | refine VLe.ownO ?_ | refine VLe.fullE ?_ | refine VLe.nilsE ?_))
      · (intro l o h; cases h)
theorem r2_Same_ev (t : Trm) (ht : t.big ≤ 1000000) : ∀ u : Trm, Ev Tryd.prog GL 19 [vTm t, vTm u] [] (.d (.bool (t.same u))) [] := by
  induction t using Trm.ind with
  | _ k ix ty l ih =>
  rintro ⟨k', ix', ty', l'⟩
  have hl := bigTms_len l
  have hs : bigTms l < 1000000 := by simp [Trm.big] at ht; omega
  have hty : ty.sz ≤ 1000000 := by simp [Trm.big] at ht; omega
  have hlen : l.length ≤ 1000000 := by omega
  show Ev _ _ _ [.agg [.d (.int .i64 k), .d (.int .i64 ix), .d (.int .i64 ty.kind), .d (.slice (dTys ty.args)), .d (.slice (dTms l))], .agg [.d (.int .i64 k'), .d (.int .i64 ix'), .d (.int .i64 ty'.kind), .d (.slice (dTys ty'.args)), .d (.slice (dTms l'))]] _ (.d (.bool (k == k' && ix == ix' && ty.same ty' && sameTms l l'))) _
  -- live at block 0: 
  -- live at block 1: t2(ptr), t3(ptr), t37, t38
  -- live at cond 0: t2(ptr), t3(ptr)
  -- live at cond 1: t2(ptr), t3(ptr), t37, t38
  -- live at cond 2: t2(ptr), t3(ptr), t37, t38
  -- live at loop 0: t2(ptr), t3(ptr), t37, t38
  refine ev_of_body (N := 54) (ks := []) (ρ0 := [(0, _), (1, _)]) (σ0 := []) (rs := [.tmp 4]) Tryd.func19 rfl (by kernel_rfl) rfl rfl rfl rfl rfl rfl rfl rfl rfl rfl (fun E ι0 => ?_)
  refine ac_ts mixed ?_
  refine s_box 2 rfl rfl rfl rfl rfl ?_
  refine s_box 3 rfl rfl rfl rfl rfl ?_
  refine t_assign rfl rfl rfl ?_
  refine tr_nil ?_
  refine ac_seq ?_
  refine ac_ts mixed ?_
  first | refine t_fieldAddr fld34_0 rfl rfl rfl ?_ | refine t_fieldAddr_c fld34_0 rfl rfl rfl rfl rfl ?_
  first | refine t_load1 ty3 rfl rfl rfl rfl rfl ?_ | refine t_load1c ty3 rfl rfl rfl rfl ?_
  first | refine t_fieldAddr fld34_0 rfl rfl rfl ?_ | refine t_fieldAddr_c fld34_0 rfl rfl rfl rfl rfl ?_
  first | refine t_load1 ty3 rfl rfl rfl rfl rfl ?_ | refine t_load1c ty3 rfl rfl rfl rfl ?_
  refine t_bin rfl rfl .neq rfl rfl ?_
  refine t_move rfl rfl rfl ?_
  refine tr_bool (fun h11 => ?_) (fun h11 => ?_)
  · refine t_skip ⟨_, rfl, .inl ⟨_, rfl, rfl⟩⟩ rfl ?_
    refine t_skip ⟨_, rfl, .inl ⟨_, rfl, rfl⟩⟩ rfl ?_
    refine t_skip ⟨_, rfl, .inl ⟨_, rfl, rfl⟩⟩ rfl ?_
    refine t_skip ⟨_, rfl, .inl ⟨_, rfl, rfl⟩⟩ rfl ?_
    refine t_skip ⟨_, rfl, .inl ⟨_, rfl, rfl⟩⟩ rfl ?_
    refine t_pick_t rfl rfl rfl rfl rfl ?_
    refine t_move rfl rfl rfl ?_
    refine t_skip ⟨_, rfl, .inl ⟨_, rfl, rfl⟩⟩ rfl ?_
    refine t_skip ⟨_, rfl, .inl ⟨_, rfl, rfl⟩⟩ rfl ?_
    refine t_skip ⟨_, rfl, .inl ⟨_, rfl, rfl⟩⟩ rfl ?_
    refine t_skip ⟨_, rfl, .inl ⟨_, rfl, rfl⟩⟩ rfl ?_
    refine t_skip ⟨_, rfl, .inl ⟨_, rfl, rfl⟩⟩ rfl ?_
    refine t_skip ⟨_, rfl, .inl ⟨_, rfl, rfl⟩⟩ rfl ?_
    refine t_pick_t rfl rfl rfl rfl rfl ?_
    refine t_move rfl rfl rfl ?_
    refine t_skip ⟨_, rfl, .inl ⟨_, rfl, rfl⟩⟩ rfl ?_
    refine t_skip ⟨_, rfl, .inl ⟨_, rfl, rfl⟩⟩ rfl ?_
    refine t_skip ⟨_, rfl, .inl ⟨_, rfl, rfl⟩⟩ rfl ?_
    refine t_skip ⟨_, rfl, .inl ⟨_, rfl, rfl⟩⟩ rfl ?_
    refine t_skip ⟨_, rfl, .inl ⟨_, rfl, rfl⟩⟩ rfl ?_
    refine t_skip ⟨_, rfl, .inl ⟨_, rfl, rfl⟩⟩ rfl ?_
    refine t_skip ⟨_, rfl, .inl ⟨_, rfl, rfl⟩⟩ rfl ?_
    refine t_pick_t rfl rfl rfl rfl rfl ?_
    refine tr_nil ?_
    refine ac_cond rfl (fun hb => ?_) (fun hb => by cases hb)
    refine ac_ts mixed ?_
    refine t_assign rfl rfl rfl ?_
    refine tr_nil ?_
    refine ac_ret ?_
    refine ⟨.inr rfl, _, ⟨_, _, rfl, rfl, rfl⟩, ?_, ?_⟩
    · have e : (k == k' && ix == ix' && ty.same ty' && sameTms l l') = false := by
        rw [Bool.eq_false_iff]; intro h; rw [Bool.and_eq_true, sameTms_iff, Bool.and_eq_true, Bool.and_eq_true] at h
        obtain ⟨⟨⟨h1, h2⟩, h3⟩, h4, h5⟩ := h
        simp_all [dTms_len]
      rw [e]
      (repeat' (first | exact VLe.rfl | exact VLes.rfl | exact VLes.nil | refine VLes.cons ?_ ?_ | refine VLe.agg ?_ | refine VLe.tup ?_ | exact VLe.own | exact VLe.full | exact VLe.nils | exact VLe.any | exact VLe.clo | exact VLe.fn | refine VLe.intE ?_ | refine VLe.boolE ?_ | refine VLe.sliceE ?_ | refine VLe.ownE ?_ | refine VLe.ownO ?_ | refine VLe.fullE ?_ | refine VLe.nilsE ?_))
    · (intro l o h; cases h)
  · first | refine t_fieldAddr fld34_1 rfl ⟨_, rfl, .inl ⟨_, rfl, rfl⟩⟩ rfl ?_ | refine t_fieldAddr_c fld34_1 rfl rfl ⟨_, rfl, .inl ⟨_, rfl, rfl⟩⟩ rfl rfl ?_
    first | refine t_load1 ty3 rfl rfl rfl ⟨_, rfl, .inl ⟨_, rfl, rfl⟩⟩ rfl ?_ | refine t_load1c ty3 rfl rfl ⟨_, rfl, .inl ⟨_, rfl, rfl⟩⟩ rfl ?_
    first | refine t_fieldAddr fld34_1 rfl ⟨_, rfl, .inl ⟨_, rfl, rfl⟩⟩ rfl ?_ | refine t_fieldAddr_c fld34_1 rfl rfl ⟨_, rfl, .inl ⟨_, rfl, rfl⟩⟩ rfl rfl ?_
    first | refine t_load1 ty3 rfl rfl rfl ⟨_, rfl, .inl ⟨_, rfl, rfl⟩⟩ rfl ?_ | refine t_load1c ty3 rfl rfl ⟨_, rfl, .inl ⟨_, rfl, rfl⟩⟩ rfl ?_
    refine t_bin rfl rfl .neq ⟨_, rfl, .inl ⟨_, rfl, rfl⟩⟩ rfl ?_
    refine t_pick_f rfl rfl rfl rfl rfl ?_
    refine t_move rfl rfl rfl ?_
    refine tr_bool (fun h18 => ?_) (fun h18 => ?_)
    · refine t_skip ⟨_, rfl, .inl ⟨_, rfl, rfl⟩⟩ rfl ?_
      refine t_skip ⟨_, rfl, .inl ⟨_, rfl, rfl⟩⟩ rfl ?_
      refine t_skip ⟨_, rfl, .inl ⟨_, rfl, rfl⟩⟩ rfl ?_
      refine t_skip ⟨_, rfl, .inl ⟨_, rfl, rfl⟩⟩ rfl ?_
      refine t_skip ⟨_, rfl, .inl ⟨_, rfl, rfl⟩⟩ rfl ?_
      refine t_skip ⟨_, rfl, .inl ⟨_, rfl, rfl⟩⟩ rfl ?_
      refine t_pick_t rfl rfl rfl rfl rfl ?_
      refine t_move rfl rfl rfl ?_
      refine t_skip ⟨_, rfl, .inl ⟨_, rfl, rfl⟩⟩ rfl ?_
      refine t_skip ⟨_, rfl, .inl ⟨_, rfl, rfl⟩⟩ rfl ?_
      refine t_skip ⟨_, rfl, .inl ⟨_, rfl, rfl⟩⟩ rfl ?_
      refine t_skip ⟨_, rfl, .inl ⟨_, rfl, rfl⟩⟩ rfl ?_
      refine t_skip ⟨_, rfl, .inl ⟨_, rfl, rfl⟩⟩ rfl ?_
      refine t_skip ⟨_, rfl, .inl ⟨_, rfl, rfl⟩⟩ rfl ?_
      refine t_skip ⟨_, rfl, .inl ⟨_, rfl, rfl⟩⟩ rfl ?_
      refine t_pick_t rfl rfl rfl rfl rfl ?_
      refine tr_nil ?_
      refine ac_cond rfl (fun hb => ?_) (fun hb => by cases hb)
      refine ac_ts mixed ?_
      refine t_assign rfl rfl rfl ?_
      refine tr_nil ?_
      refine ac_ret ?_
      refine ⟨.inr rfl, _, ⟨_, _, rfl, rfl, rfl⟩, ?_, ?_⟩
      · have e : (k == k' && ix == ix' && ty.same ty' && sameTms l l') = false := by
          rw [Bool.eq_false_iff]; intro h; rw [Bool.and_eq_true, sameTms_iff, Bool.and_eq_true, Bool.and_eq_true] at h
          obtain ⟨⟨⟨h1, h2⟩, h3⟩, h4, h5⟩ := h
          simp_all [dTms_len]
        rw [e]
        (repeat' (first | exact VLe.rfl | exact VLes.rfl | exact VLes.nil | refine VLes.cons ?_ ?_ | refine VLe.agg ?_ | refine VLe.tup ?_ | exact VLe.own | exact VLe.full | exact VLe.nils | exact VLe.any | exact VLe.clo | exact VLe.fn | refine VLe.intE ?_ | refine VLe.boolE ?_ | refine VLe.sliceE ?_ | refine VLe.ownE ?_ | refine VLe.ownO ?_ | refine VLe.fullE ?_ | refine VLe.nilsE ?_))
      · (intro l o h; cases h)
    · first | refine t_fieldAddr fld34_2 rfl ⟨_, rfl, .inl ⟨_, rfl, rfl⟩⟩ rfl ?_ | refine t_fieldAddr_c fld34_2 rfl rfl ⟨_, rfl, .inl ⟨_, rfl, rfl⟩⟩ rfl rfl ?_
      first | refine t_load ty30 rfl rfl rfl rfl ⟨_, rfl, .inl ⟨_, rfl, rfl⟩⟩ rfl ?_ | refine s_loadWc ty30 rfl rfl ⟨_, rfl, .inl ⟨_, rfl, rfl⟩⟩ rfl ?_ | refine t_loadN (us := [_, _]) ty30 rfl rfl rfl rfl ⟨_, rfl, .inl ⟨_, rfl, rfl⟩⟩ rfl ?_ | refine t_loadNc (us := [_, _]) ty30 rfl rfl rfl ⟨_, rfl, .inl ⟨_, rfl, rfl⟩⟩ rfl ?_
      first | refine t_fieldAddr fld34_2 rfl ⟨_, rfl, .inl ⟨_, rfl, rfl⟩⟩ rfl ?_ | refine t_fieldAddr_c fld34_2 rfl rfl ⟨_, rfl, .inl ⟨_, rfl, rfl⟩⟩ rfl rfl ?_
      first | refine t_load ty30 rfl rfl rfl rfl ⟨_, rfl, .inl ⟨_, rfl, rfl⟩⟩ rfl ?_ | refine s_loadWc ty30 rfl rfl ⟨_, rfl, .inl ⟨_, rfl, rfl⟩⟩ rfl ?_ | refine t_loadN (us := [_, _]) ty30 rfl rfl rfl rfl ⟨_, rfl, .inl ⟨_, rfl, rfl⟩⟩ rfl ?_ | refine t_loadNc (us := [_, _]) ty30 rfl rfl rfl ⟨_, rfl, .inl ⟨_, rfl, rfl⟩⟩ rfl ?_
      first | refine s_callF rfl .rfl (r1_Same_ev ty hty ty') ⟨_, rfl, .inl ⟨_, rfl, rfl⟩⟩ rfl ?_ | refine s_callF rfl (by (repeat' (first | exact VLes.rfl | exact VLes.nil | exact VLe.rfl | refine VLes.cons ?_ ?_ | exact VLe.own | exact VLe.full | exact VLe.nils | refine VLe.agg ?_ | exact VLe.fullE (dTms_one _) | exact VLe.fullE (dTms_two _ _) | exact VLe.fullE (dTms_three _ _ _) | exact VLe.fullE (dTys_one _) | exact VLe.fullE (dTys_two _ _) | exact VLe.fullE (dTys_three _ _ _)))) (r1_Same_ev ty hty ty') ⟨_, rfl, .inl ⟨_, rfl, rfl⟩⟩ rfl ?_
      refine t_not rfl ⟨_, rfl, .inl ⟨_, rfl, rfl⟩⟩ rfl ?_
      refine t_pick_f rfl rfl rfl rfl rfl ?_
      refine t_move rfl rfl rfl ?_
      refine tr_bool (fun h26 => ?_) (fun h26 => ?_)
      · refine t_skip ⟨_, rfl, .inl ⟨_, rfl, rfl⟩⟩ rfl ?_
        refine t_skip ⟨_, rfl, .inl ⟨_, rfl, rfl⟩⟩ rfl ?_
        refine t_skip ⟨_, rfl, .inl ⟨_, rfl, rfl⟩⟩ rfl ?_
        refine t_skip ⟨_, rfl, .inl ⟨_, rfl, rfl⟩⟩ rfl ?_
        refine t_skip ⟨_, rfl, .inl ⟨_, rfl, rfl⟩⟩ rfl ?_
        refine t_skip ⟨_, rfl, .inl ⟨_, rfl, rfl⟩⟩ rfl ?_
        refine t_skip ⟨_, rfl, .inl ⟨_, rfl, rfl⟩⟩ rfl ?_
        refine t_pick_t rfl rfl rfl rfl rfl ?_
        refine tr_nil ?_
        refine ac_cond rfl (fun hb => ?_) (fun hb => by cases hb)
        refine ac_ts mixed ?_
        refine t_assign rfl rfl rfl ?_
        refine tr_nil ?_
        refine ac_ret ?_
        refine ⟨.inr rfl, _, ⟨_, _, rfl, rfl, rfl⟩, ?_, ?_⟩
        · have e : (k == k' && ix == ix' && ty.same ty' && sameTms l l') = false := by
            rw [Bool.eq_false_iff]; intro h; rw [Bool.and_eq_true, sameTms_iff, Bool.and_eq_true, Bool.and_eq_true] at h
            obtain ⟨⟨⟨h1, h2⟩, h3⟩, h4, h5⟩ := h
            simp_all [dTms_len]
          rw [e]
          (repeat' (first | exact VLe.rfl | exact VLes.rfl | exact VLes.nil | refine VLes.cons ?_ ?_ | refine VLe.agg ?_ | refine VLe.tup ?_ | exact VLe.own | exact VLe.full | exact VLe.nils | exact VLe.any | exact VLe.clo | exact VLe.fn | refine VLe.intE ?_ | refine VLe.boolE ?_ | refine VLe.sliceE ?_ | refine VLe.ownE ?_ | refine VLe.ownO ?_ | refine VLe.fullE ?_ | refine VLe.nilsE ?_))
        · (intro l o h; cases h)
      · first | refine t_fieldAddr fld34_3 rfl ⟨_, rfl, .inl ⟨_, rfl, rfl⟩⟩ rfl ?_ | refine t_fieldAddr_c fld34_3 rfl rfl ⟨_, rfl, .inl ⟨_, rfl, rfl⟩⟩ rfl rfl ?_
        first | refine t_load1 ty32 rfl rfl rfl ⟨_, rfl, .inl ⟨_, rfl, rfl⟩⟩ rfl ?_ | refine t_load1c ty32 rfl rfl ⟨_, rfl, .inl ⟨_, rfl, rfl⟩⟩ rfl ?_
        refine t_len rfl sli32 rfl (by constructor) ⟨_, rfl, .inl ⟨_, rfl, rfl⟩⟩ rfl ?_
        first | refine t_fieldAddr fld34_3 rfl ⟨_, rfl, .inl ⟨_, rfl, rfl⟩⟩ rfl ?_ | refine t_fieldAddr_c fld34_3 rfl rfl ⟨_, rfl, .inl ⟨_, rfl, rfl⟩⟩ rfl rfl ?_
        first | refine t_load1 ty32 rfl rfl rfl ⟨_, rfl, .inl ⟨_, rfl, rfl⟩⟩ rfl ?_ | refine t_load1c ty32 rfl rfl ⟨_, rfl, .inl ⟨_, rfl, rfl⟩⟩ rfl ?_
        refine t_len rfl sli32 rfl (by constructor) ⟨_, rfl, .inl ⟨_, rfl, rfl⟩⟩ rfl ?_
        refine t_bin rfl rfl .neq ⟨_, rfl, .inl ⟨_, rfl, rfl⟩⟩ rfl ?_
        refine t_pick_f rfl rfl rfl rfl rfl ?_
        refine tr_nil ?_
        refine ac_bool (fun hb0 => ?_) (fun hb0 => ?_)
        · refine ac_cond rfl (fun _ => ?_) (fun hb => by cases hb)
          refine ac_ts mixed ?_
          refine t_assign rfl rfl rfl ?_
          refine tr_nil ?_
          refine ac_ret ?_
          refine ⟨.inr rfl, _, ⟨_, _, rfl, rfl, rfl⟩, ?_, ?_⟩
          · have e : (k == k' && ix == ix' && ty.same ty' && sameTms l l') = false := by
              rw [Bool.eq_false_iff]; intro h; rw [Bool.and_eq_true, sameTms_iff, Bool.and_eq_true, Bool.and_eq_true] at h
              obtain ⟨⟨⟨h1, h2⟩, h3⟩, h4, h5⟩ := h
              simp_all [dTms_len]
            rw [e]
            (repeat' (first | exact VLe.rfl | exact VLes.rfl | exact VLes.nil | refine VLes.cons ?_ ?_ | refine VLe.agg ?_ | refine VLe.tup ?_ | exact VLe.own | exact VLe.full | exact VLe.nils | exact VLe.any | exact VLe.clo | exact VLe.fn | refine VLe.intE ?_ | refine VLe.boolE ?_ | refine VLe.sliceE ?_ | refine VLe.ownE ?_ | refine VLe.ownO ?_ | refine VLe.fullE ?_ | refine VLe.nilsE ?_))
          · (intro l o h; cases h)
        · refine ac_cond rfl (fun hb => by cases hb) (fun _ => ?_)
          refine ac_skip ?_
          change AC _ _ _ _ _
          refine ac_seq ?_
          refine ac_ts mixed ?_
          first | refine t_fieldAddr fld34_3 rfl rfl rfl ?_ | refine t_fieldAddr_c fld34_3 rfl rfl rfl rfl rfl ?_
          first | refine t_load1 ty32 rfl rfl rfl rfl rfl ?_ | refine t_load1c ty32 rfl rfl rfl rfl ?_
          refine t_len rfl sli32 rfl (by constructor) rfl rfl ?_
          refine t_move rfl rfl rfl ?_
          refine tr_nil ?_
          have hk : (k == k' && ix == ix' && ty.same ty') = true := by simp_all
          have hll : l.length = l'.length := by simp [dTms_len] at hb0; omega
          refine ac_range mixed ((dTms l).length) (fun i => [(2, .ptr 2 0), (3, .ptr 3 0)]) (fun i => [(2, some (.cells [.d (.int .i64 k), .d (.int .i64 ix), .d (.int .i64 ty.kind), .d (.slice (dTys ty.args)), .d (.slice (dTms l))] 34)), (3, some (.cells [.d (.int .i64 k'), .d (.int .i64 ix'), .d (.int .i64 ty'.kind), .d (.slice (dTys ty'.args)), .d (.slice (dTms l'))] 34))]) (fun i => [2, 3]) (fun i => ∀ (j : Nat) a b, j < i → l[j]? = some a → l'[j]? = some b → a.same b = true) (by simp) ?_ (by first | omega | (simp only [dTys_len, dTms_len, dInts_len, List.length_append, List.length_cons, List.length_nil, List.length_take]; omega)) rfl (fun i => ⟨rfl, rfl⟩) (fun i hi hI => ?_) (fun hI => ?_)
          · (refine weak_of ?_ ?_ rfl rfl rfl <;> (repeat' (first | exact trivial | refine ⟨⟨_, rfl, ?_⟩, ?_⟩ | exact OLe.rfl | refine OLe.cells ?_ | exact VLe.rfl | exact VLes.rfl | exact VLes.nil | refine VLes.cons ?_ ?_ | refine VLe.agg ?_ | refine VLe.tup ?_ | exact VLe.own | exact VLe.full | exact VLe.nils | exact VLe.any | exact VLe.clo | exact VLe.fn | refine VLe.intE ?_ | refine VLe.boolE ?_ | refine VLe.sliceE ?_ | refine VLe.ownE ?_ | refine VLe.ownO ?_ | refine VLe.fullE ?_ | refine VLe.nilsE ?_ | refine OLe.row ?_)))
          · rw [dTms_len] at hi
            have hi' : i < l'.length := by omega
            have hg : l[i]? = some l[i] := List.getElem?_eq_getElem hi
            have hg' : l'[i]? = some l'[i] := List.getElem?_eq_getElem hi'
            have hget := dTms_get hg
            have hget' := dTms_get hg'
            have hm := List.getElem_mem hi
            have hsz := bigTms_mem hm
            refine ac_ts mixed ?_
            refine t_move rfl rfl rfl ?_
            refine t_assign rfl rfl rfl ?_
            refine tr_nil ?_
            refine ac_ds mixed ?_
            first | refine t_fieldAddr fld34_3 rfl rfl rfl ?_ | refine t_fieldAddr_c fld34_3 rfl rfl rfl rfl rfl ?_
            first | refine t_load1 ty32 rfl rfl rfl rfl rfl ?_ | refine t_load1c ty32 rfl rfl rfl rfl ?_
            refine t_move rfl rfl rfl ?_
            refine t_indexAddr sli32 rfl (by constructor) rfl (Int.natCast_nonneg _) hget rfl rfl rfl ?_
            first | refine t_load ty34 rfl rfl rfl rfl rfl rfl ?_ | refine s_loadWc ty34 rfl rfl rfl rfl ?_ | refine t_loadN (us := [_, _, _, _, _]) ty34 rfl rfl rfl rfl rfl rfl ?_ | refine t_loadNc (us := [_, _, _, _, _]) ty34 rfl rfl rfl rfl rfl ?_
            first | refine t_fieldAddr fld34_3 rfl rfl rfl ?_ | refine t_fieldAddr_c fld34_3 rfl rfl rfl rfl rfl ?_
            first | refine t_load1 ty32 rfl rfl rfl rfl rfl ?_ | refine t_load1c ty32 rfl rfl rfl rfl ?_
            refine t_move rfl rfl rfl ?_
            refine t_indexAddr sli32 rfl (by constructor) rfl (Int.natCast_nonneg _) hget' rfl rfl rfl ?_
            first | refine t_load ty34 rfl rfl rfl rfl rfl rfl ?_ | refine s_loadWc ty34 rfl rfl rfl rfl ?_ | refine t_loadN (us := [_, _, _, _, _]) ty34 rfl rfl rfl rfl rfl rfl ?_ | refine t_loadNc (us := [_, _, _, _, _]) ty34 rfl rfl rfl rfl rfl ?_
            first | refine s_callF rfl .rfl (ih _ hm (by omega) _) rfl rfl ?_ | refine s_callF rfl (by (repeat' (first | exact VLes.rfl | exact VLes.nil | exact VLe.rfl | refine VLes.cons ?_ ?_ | exact VLe.own | exact VLe.full | exact VLe.nils | refine VLe.agg ?_ | exact VLe.fullE (dTms_one _) | exact VLe.fullE (dTms_two _ _) | exact VLe.fullE (dTms_three _ _ _) | exact VLe.fullE (dTys_one _) | exact VLe.fullE (dTys_two _ _) | exact VLe.fullE (dTys_three _ _ _)))) (ih _ hm (by omega) _) rfl rfl ?_
            refine t_not rfl rfl rfl ?_
            refine tr_nil ⟨by kernel_rfl, ?_⟩
            refine ac_bool (fun hb2 => ?_) (fun hb2 => ?_)
            · refine ac_cond rfl (fun _ => ?_) (fun hb => by cases hb)
              refine ac_ts mixed ?_
              refine t_assign rfl rfl rfl ?_
              refine tr_nil ?_
              refine ac_ret ?_
              refine ⟨.inr rfl, _, ⟨_, _, rfl, rfl, rfl⟩, ?_, ?_⟩
              · have e : (k == k' && ix == ix' && ty.same ty' && sameTms l l') = false := by
                  rw [Bool.eq_false_iff]; intro h; rw [Bool.and_eq_true, sameTms_iff] at h
                  simp [h.2.2 i _ _ hg hg'] at hb2
                rw [e]
                (repeat' (first | exact VLe.rfl | exact VLes.rfl | exact VLes.nil | refine VLes.cons ?_ ?_ | refine VLe.agg ?_ | refine VLe.tup ?_ | exact VLe.own | exact VLe.full | exact VLe.nils | exact VLe.any | exact VLe.clo | exact VLe.fn | refine VLe.intE ?_ | refine VLe.boolE ?_ | refine VLe.sliceE ?_ | refine VLe.ownE ?_ | refine VLe.ownO ?_ | refine VLe.fullE ?_ | refine VLe.nilsE ?_))
              · (intro l o h; cases h)
            · refine ac_cond rfl (fun hb => by cases hb) (fun _ => ?_)
              refine ac_skip ?_
              show _ ∧ Weak _ _ _
              refine ⟨fun j a b hj ha hb => by
                 by_cases e : j = i
                 · subst e; rw [hg] at ha; injection ha with ha; subst ha; rw [hg'] at hb; injection hb with hb; subst hb; simpa using hb2
                 · exact hI j a b (by omega) ha hb, ?_⟩
              (refine weak_of ?_ ?_ rfl rfl rfl <;> (repeat' (first | exact trivial | refine ⟨⟨_, rfl, ?_⟩, ?_⟩ | exact OLe.rfl | refine OLe.cells ?_ | exact VLe.rfl | exact VLes.rfl | exact VLes.nil | refine VLes.cons ?_ ?_ | refine VLe.agg ?_ | refine VLe.tup ?_ | exact VLe.own | exact VLe.full | exact VLe.nils | exact VLe.any | exact VLe.clo | exact VLe.fn | refine VLe.intE ?_ | refine VLe.boolE ?_ | refine VLe.sliceE ?_ | refine VLe.ownE ?_ | refine VLe.ownO ?_ | refine VLe.fullE ?_ | refine VLe.nilsE ?_ | refine OLe.row ?_)))
          · skip
            change AC _ _ _ _ _
            refine ac_ts mixed ?_
            refine t_assign rfl rfl rfl ?_
            refine tr_nil ?_
            refine ac_ret ?_
            refine ⟨.inr rfl, _, ⟨_, _, rfl, rfl, rfl⟩, ?_, ?_⟩
            · have e : (k == k' && ix == ix' && ty.same ty' && sameTms l l') = true := by
                rw [Bool.and_eq_true, sameTms_iff]
                exact ⟨hk, hll, fun j a b ha hb => hI j a b (by rw [dTms_len]; exact (List.getElem?_eq_some_iff.1 ha).1) ha hb⟩
              rw [e]
              (repeat' (first | exact VLe.rfl | exact VLes.rfl | exact VLes.nil | refine VLes.cons ?_ ?_ | refine VLe.agg ?_ | refine VLe.tup ?_ | exact VLe.own | exact VLe.full | exact VLe.nils | exact VLe.any | exact VLe.clo | exact VLe.fn | refine VLe.intE ?_ | refine VLe.boolE ?_ | refine VLe.sliceE ?_ | refine VLe.ownE ?_ | refine VLe.ownO ?_ | refine VLe.fullE ?_ | refine VLe.nilsE ?_))
            · (intro l o h; cases h)
theorem r2_Copy_ev (t : Trm) (ht : t.big ≤ 1000000) : Ev Tryd.prog GL 48 [vTm t] [] (vTm t) [] := by
  induction t using Trm.ind with
  | _ k ix ty l ih =>
  have hl := bigTms_len l
  have hs : bigTms l < 1000000 := by simp [Trm.big] at ht; omega
  have hty : ty.sz ≤ 1000000 := by simp [Trm.big] at ht; omega
  have hlen : l.length ≤ 1000000 := by omega
  show Ev _ _ _ [.agg [.d (.int .i64 k), .d (.int .i64 ix), .d (.int .i64 ty.kind), .d (.slice (dTys ty.args)), .d (.slice (dTms l))]] [] (.agg [.d (.int .i64 k), .d (.int .i64 ix), .d (.int .i64 ty.kind), .d (.slice (dTys ty.args)), .d (.slice (dTms l))]) []
  -- live at block 0: t1(ptr), t2(ptr), t3
  -- live at block 1: t1(ptr), t2(ptr), t3, t7, t8, t9
  -- live at cond 0: t1(ptr), t2(ptr), t3, t7, t8, t9
  -- live at loop 0: t1(ptr), t2(ptr), t3, t7, t8, t9
  refine ev_of_body (N := 28) (ks := []) (ρ0 := [(0, _)]) (σ0 := []) (rs := [.cell 2 34]) Tryd.func48 rfl (by kernel_rfl) rfl rfl rfl rfl rfl rfl rfl rfl rfl rfl (fun E ι0 => ?_)
  refine ac_ts mixed ?_
  refine s_box 1 rfl rfl rfl rfl rfl ?_
  refine s_alloc 2 zer34 rfl rfl rfl rfl ?_
  refine tr_nil ?_
  refine ac_ts mixed ?_
  refine t_assign rfl rfl rfl ?_
  refine tr_nil ?_
  refine ac_seq ?_
  refine ac_ts mixed ?_
  first | refine t_fieldAddr fld34_3 rfl rfl rfl ?_ | refine t_fieldAddr_c fld34_3 rfl rfl rfl rfl rfl ?_
  first | refine t_load1 ty32 rfl rfl rfl rfl rfl ?_ | refine t_load1c ty32 rfl rfl rfl rfl ?_
  refine t_len rfl sli32 rfl (by constructor) rfl rfl ?_
  refine t_move rfl rfl rfl ?_
  refine tr_nil ?_
  refine ac_weak (weak_rowt (L := 100) (t := 3) (sz := 5) (e := 34) (es := []) rfl rfl VLe.nilfull) ?_
  refine ac_range mixed ((dTms l).length) (fun i => [(1, .ptr 1 0), (2, .ptr 2 0), (3, .own (dTms (l.take i)) 100), (7, .d (.slice (dTms l)))]) (fun i => [(1, some (.cells [.d (.int .i64 k), .d (.int .i64 ix), .d (.int .i64 ty.kind), .d (.slice (dTys ty.args)), .d (.slice (dTms l))] 34)), (2, some (.cells [.d (.int .i64 0), .d (.int .i64 0), .d (.int .i64 0), .d .nils, .d .nils] 34)), (100, some (.row (dTms (l.take i)).length 5 34))]) (fun i => [1, 2, 100]) (fun i => True) trivial ?_ (by first | omega | (simp only [dTys_len, dTms_len, dInts_len, List.length_append, List.length_cons, List.length_nil, List.length_take]; omega)) rfl (fun i => ⟨rfl, rfl⟩) (fun i hi hI => ?_) (fun hI => ?_)
  · (refine weak_of ?_ ?_ rfl rfl rfl <;> (repeat' (first | exact trivial | refine ⟨⟨_, rfl, ?_⟩, ?_⟩ | exact OLe.rfl | refine OLe.cells ?_ | exact VLe.rfl | exact VLes.rfl | exact VLes.nil | refine VLes.cons ?_ ?_ | refine VLe.agg ?_ | refine VLe.tup ?_ | exact VLe.own | exact VLe.full | exact VLe.nils | exact VLe.any | exact VLe.clo | exact VLe.fn | refine VLe.intE ?_ | refine VLe.boolE ?_ | refine VLe.sliceE ?_ | refine VLe.ownE ?_ | refine VLe.ownO ?_ | refine VLe.fullE ?_ | refine VLe.nilsE ?_ | refine OLe.row ?_)))
  · rw [dTms_len] at hi
    have hg : l[i]? = some l[i] := List.getElem?_eq_getElem hi
    have hget := dTms_get hg
    have hm := List.getElem_mem hi
    have hsz := bigTms_mem hm
    refine ac_ts mixed ?_
    refine t_indexAddr sli32 rfl (by constructor) rfl (Int.natCast_nonneg _) hget rfl rfl rfl ?_
    first | refine t_load ty34 rfl rfl rfl rfl rfl rfl ?_ | refine s_loadWc ty34 rfl rfl rfl rfl ?_ | refine t_loadN (us := [_, _, _, _, _]) ty34 rfl rfl rfl rfl rfl rfl ?_ | refine t_loadNc (us := [_, _, _, _, _]) ty34 rfl rfl rfl rfl rfl ?_
    refine s_alloc 5 zer34 rfl rfl rfl rfl ?_
    first | refine s_storeW ty34 rfl rfl rfl rfl rfl rfl rfl ?_ | refine s_store (ws := [_, _, _, _, _]) ty34 rfl rfl rfl rfl rfl rfl rfl rfl ?_
    refine tr_nil ?_
    refine ac_t mixed ?_
    refine t_move rfl rfl rfl ?_
    first | refine t_load ty34 rfl rfl rfl rfl rfl rfl ?_ | refine s_loadWc ty34 rfl rfl rfl rfl ?_ | refine t_loadN (us := [_, _, _, _, _]) ty34 rfl rfl rfl rfl rfl rfl ?_ | refine t_loadNc (us := [_, _, _, _, _]) ty34 rfl rfl rfl rfl rfl ?_
    first | refine s_callF rfl .rfl (ih _ hm (by omega)) rfl rfl ?_ | refine s_callF rfl (by (repeat' (first | exact VLes.rfl | exact VLes.nil | exact VLe.rfl | refine VLes.cons ?_ ?_ | exact VLe.own | exact VLe.full | exact VLe.nils | refine VLe.agg ?_ | exact VLe.fullE (dTms_one _) | exact VLe.fullE (dTms_two _ _) | exact VLe.fullE (dTms_three _ _ _) | exact VLe.fullE (dTys_one _) | exact VLe.fullE (dTys_two _ _) | exact VLe.fullE (dTys_three _ _ _)))) (ih _ hm (by omega)) rfl rfl ?_
    first | refine t_buildSlice sli32 (Opds.ofL rfl) (.cons (.agg .rfl) .nil) (by intro x hx; simp only [List.mem_cons, List.not_mem_nil, or_false] at hx; rcases hx with rfl <;> rfl) rfl rfl rfl rfl ?_ | refine t_buildSlice sli32 (Opds.ofL rfl) (Elems.ofL rfl) (by intro x hx; simp only [List.mem_cons, List.not_mem_nil, or_false] at hx; rcases hx with rfl <;> rfl) rfl rfl rfl rfl ?_
    first | refine t_append_own rfl sli32 rfl rfl (by constructor) rfl (by (first | exact dTys_sz _ | exact dTms_sz _ | exact dInts_sz _ | exact sz_nil | exact sz_one rfl | exact sz_app (dTys_sz _) (sz_one rfl) | exact sz_app (dTms_sz _) (sz_one rfl))) (by (first | exact dTys_sz _ | exact dTms_sz _ | exact dInts_sz _ | exact sz_nil | exact sz_one rfl | exact sz_app (dTys_sz _) (sz_one rfl) | exact sz_app (dTms_sz _) (sz_one rfl))) (by (simp only [dTys_len, dTms_len, dInts_len, List.length_append, List.length_cons, List.length_nil, List.length_take]; omega)) rfl rfl rfl rfl ?_ | refine t_append rfl sli32 rfl (by first | exact VLe.nilfull | exact VLe.rfl) rfl (by constructor) (by (first | exact dTys_sz _ | exact dTms_sz _ | exact dInts_sz _ | exact sz_nil | exact sz_one rfl | exact sz_app (dTys_sz _) (sz_one rfl) | exact sz_app (dTms_sz _) (sz_one rfl))) (by (first | exact dTys_sz _ | exact dTms_sz _ | exact dInts_sz _ | exact sz_nil | exact sz_one rfl | exact sz_app (dTys_sz _) (sz_one rfl) | exact sz_app (dTms_sz _) (sz_one rfl))) (by (simp only [dTys_len, dTms_len, dInts_len, List.length_append, List.length_cons, List.length_nil, List.length_take]; omega)) rfl rfl rfl rfl rfl ?_
    refine t_assign rfl rfl rfl ?_
    refine tr_nil ?_
    show _ ∧ Weak _ _ _
    refine ⟨trivial, ?_⟩
    rw [show dTms (l.take (i + 1)) = dTms (l.take i) ++ [dTm l[i]] by rw [take_succ_of hg, dTms_push]]
    (refine weak_of ?_ ?_ rfl rfl rfl <;> (repeat' (first | exact trivial | refine ⟨⟨_, rfl, ?_⟩, ?_⟩ | exact OLe.rfl | refine OLe.cells ?_ | exact VLe.rfl | exact VLes.rfl | exact VLes.nil | refine VLes.cons ?_ ?_ | refine VLe.agg ?_ | refine VLe.tup ?_ | exact VLe.own | exact VLe.full | exact VLe.nils | exact VLe.any | exact VLe.clo | exact VLe.fn | refine VLe.intE ?_ | refine VLe.boolE ?_ | refine VLe.sliceE ?_ | refine VLe.ownE ?_ | refine VLe.ownO ?_ | refine VLe.fullE ?_ | refine VLe.nilsE ?_ | refine OLe.row ?_)))
  · skip
    change AC _ _ _ _ _
    refine ac_ds mixed ?_
    first | refine t_fieldAddr fld34_0 rfl rfl rfl ?_ | refine t_fieldAddr_c fld34_0 rfl rfl rfl rfl rfl ?_
    first | refine t_load1 ty3 rfl rfl rfl rfl rfl ?_ | refine t_load1c ty3 rfl rfl rfl rfl ?_
    first | refine t_fieldAddr fld34_1 rfl rfl rfl ?_ | refine t_fieldAddr_c fld34_1 rfl rfl rfl rfl rfl ?_
    first | refine t_load1 ty3 rfl rfl rfl rfl rfl ?_ | refine t_load1c ty3 rfl rfl rfl rfl ?_
    first | refine t_fieldAddr fld34_2 rfl rfl rfl ?_ | refine t_fieldAddr_c fld34_2 rfl rfl rfl rfl rfl ?_
    first | refine t_load ty30 rfl rfl rfl rfl rfl rfl ?_ | refine s_loadWc ty30 rfl rfl rfl rfl ?_ | refine t_loadN (us := [_, _]) ty30 rfl rfl rfl rfl rfl rfl ?_ | refine t_loadNc (us := [_, _]) ty30 rfl rfl rfl rfl rfl ?_
    first | refine s_callF rfl .rfl (r1_Copy_ev ty hty) rfl rfl ?_ | refine s_callF rfl (by (repeat' (first | exact VLes.rfl | exact VLes.nil | exact VLe.rfl | refine VLes.cons ?_ ?_ | exact VLe.own | exact VLe.full | exact VLe.nils | refine VLe.agg ?_ | exact VLe.fullE (dTms_one _) | exact VLe.fullE (dTms_two _ _) | exact VLe.fullE (dTms_three _ _ _) | exact VLe.fullE (dTys_one _) | exact VLe.fullE (dTys_two _ _) | exact VLe.fullE (dTys_three _ _ _)))) (r1_Copy_ev ty hty) rfl rfl ?_
    refine t_move rfl rfl rfl ?_
    refine s_build (res := [_, _, _, _, _]) zer34 plc34 rfl rfl rfl rfl rfl ?_
    first | refine s_storeW ty34 rfl rfl rfl rfl rfl rfl rfl ?_ | refine s_store (ws := [_, _, _, _, _]) ty34 rfl rfl rfl rfl rfl rfl rfl rfl ?_
    refine tr_nil ⟨by kernel_rfl, ?_⟩
    refine ac_ret ?_
    refine ⟨.inr rfl, _, ⟨_, _, _, _, _, rfl, rfl, rfl, .inl (retAgg ty34 rfl), rfl⟩, ?_, ?_⟩
    · (repeat' (first | exact VLe.rfl | exact VLes.rfl | exact VLes.nil | refine VLes.cons ?_ ?_ | refine VLe.agg ?_ | refine VLe.tup ?_ | exact VLe.own | exact VLe.full | exact VLe.nils | exact VLe.any | exact VLe.clo | exact VLe.fn | refine VLe.intE ?_ | refine VLe.boolE ?_ | refine VLe.sliceE ?_ | refine VLe.ownE ?_ | refine VLe.ownO ?_ | refine VLe.fullE ?_ | refine VLe.nilsE ?_))
      rw [dTms_len, List.take_length]
    · (intro l o h; cases h)
theorem N_ev (k : Int) (l : List Trm) (ht : bigTms l ≤ 1000000) : Ev Tryd.prog GL 20 [.d (.int .i64 k), .d (.slice (dTms l))] [] (vTm (.mk k 0 .zero l)) [] := by
  have hl := bigTms_len l
  have hlen : l.length ≤ 1000000 := by omega
  show Ev _ _ _ _ [] (.agg [.d (.int .i64 k), .d (.int .i64 0), .d (.int .i64 0), .d (.slice []), .d (.slice (dTms l))]) []
  -- live at block 0: t0, t4(ptr), t5
  -- live at block 1: t0, t4(ptr), t5, t8, t9, t10
  -- live at cond 0: t0, t4(ptr), t5, t8, t9, t10
  -- live at loop 0: t0, t4(ptr), t5, t8, t9, t10
  refine ev_of_body (N := 23) (ks := []) (ρ0 := [(0, _), (1, _)]) (σ0 := []) (rs := [.cell 4 34]) Tryd.func20 rfl (by kernel_rfl) rfl rfl rfl rfl rfl rfl rfl rfl rfl rfl (fun E ι0 => ?_)
  refine ac_ts mixed ?_
  refine s_alloc 4 zer34 rfl rfl rfl rfl ?_
  refine tr_nil ?_
  refine ac_ts mixed ?_
  refine t_assign rfl rfl rfl ?_
  refine tr_nil ?_
  refine ac_seq ?_
  refine ac_ts mixed ?_
  refine t_move rfl rfl rfl ?_
  refine t_len rfl sli32 rfl (by constructor) rfl rfl ?_
  refine t_move rfl rfl rfl ?_
  refine tr_nil ?_
  refine ac_weak (weak_rowt (L := 100) (t := 5) (sz := 5) (e := 34) (es := []) rfl rfl VLe.nilfull) ?_
  refine ac_range mixed ((dTms l).length) (fun i => [(4, .ptr 4 0), (0, .d (.int .i64 k)), (5, .own (dTms (l.take i)) 100), (8, .d (.slice (dTms l)))]) (fun i => [(4, some (.cells [.d (.int .i64 0), .d (.int .i64 0), .d (.int .i64 0), .d .nils, .d .nils] 34)), (100, some (.row (dTms (l.take i)).length 5 34))]) (fun i => [4, 100]) (fun i => True) trivial ?_ (by first | omega | (simp only [dTys_len, dTms_len, dInts_len, List.length_append, List.length_cons, List.length_nil, List.length_take]; omega)) rfl (fun i => ⟨rfl, rfl⟩) (fun i hi hI => ?_) (fun hI => ?_)
  · (refine weak_of ?_ ?_ rfl rfl rfl <;> (repeat' (first | exact trivial | refine ⟨⟨_, rfl, ?_⟩, ?_⟩ | exact OLe.rfl | refine OLe.cells ?_ | exact VLe.rfl | exact VLes.rfl | exact VLes.nil | refine VLes.cons ?_ ?_ | refine VLe.agg ?_ | refine VLe.tup ?_ | exact VLe.own | exact VLe.full | exact VLe.nils | exact VLe.any | exact VLe.clo | exact VLe.fn | refine VLe.intE ?_ | refine VLe.boolE ?_ | refine VLe.sliceE ?_ | refine VLe.ownE ?_ | refine VLe.ownO ?_ | refine VLe.fullE ?_ | refine VLe.nilsE ?_ | refine OLe.row ?_)))
  · rw [dTms_len] at hi
    have hg : l[i]? = some l[i] := List.getElem?_eq_getElem hi
    have hget := dTms_get hg
    have hm := List.getElem_mem hi
    have hsz := bigTms_mem hm
    refine ac_ts mixed ?_
    refine t_indexAddr sli32 rfl (by constructor) rfl (Int.natCast_nonneg _) hget rfl rfl rfl ?_
    first | refine t_load ty34 rfl rfl rfl rfl rfl rfl ?_ | refine s_loadWc ty34 rfl rfl rfl rfl ?_ | refine t_loadN (us := [_, _, _, _, _]) ty34 rfl rfl rfl rfl rfl rfl ?_ | refine t_loadNc (us := [_, _, _, _, _]) ty34 rfl rfl rfl rfl rfl ?_
    refine s_alloc 7 zer34 rfl rfl rfl rfl ?_
    first | refine s_storeW ty34 rfl rfl rfl rfl rfl rfl rfl ?_ | refine s_store (ws := [_, _, _, _, _]) ty34 rfl rfl rfl rfl rfl rfl rfl rfl ?_
    refine tr_nil ?_
    refine ac_t mixed ?_
    refine t_move rfl rfl rfl ?_
    first | refine t_load ty34 rfl rfl rfl rfl rfl rfl ?_ | refine s_loadWc ty34 rfl rfl rfl rfl ?_ | refine t_loadN (us := [_, _, _, _, _]) ty34 rfl rfl rfl rfl rfl rfl ?_ | refine t_loadNc (us := [_, _, _, _, _]) ty34 rfl rfl rfl rfl rfl ?_
    first | refine s_callF rfl .rfl (r2_Copy_ev _ (by omega)) rfl rfl ?_ | refine s_callF rfl (by (repeat' (first | exact VLes.rfl | exact VLes.nil | exact VLe.rfl | refine VLes.cons ?_ ?_ | exact VLe.own | exact VLe.full | exact VLe.nils | refine VLe.agg ?_ | exact VLe.fullE (dTms_one _) | exact VLe.fullE (dTms_two _ _) | exact VLe.fullE (dTms_three _ _ _) | exact VLe.fullE (dTys_one _) | exact VLe.fullE (dTys_two _ _) | exact VLe.fullE (dTys_three _ _ _)))) (r2_Copy_ev _ (by omega)) rfl rfl ?_
    first | refine t_buildSlice sli32 (Opds.ofL rfl) (.cons (.agg .rfl) .nil) (by intro x hx; simp only [List.mem_cons, List.not_mem_nil, or_false] at hx; rcases hx with rfl <;> rfl) rfl rfl rfl rfl ?_ | refine t_buildSlice sli32 (Opds.ofL rfl) (Elems.ofL rfl) (by intro x hx; simp only [List.mem_cons, List.not_mem_nil, or_false] at hx; rcases hx with rfl <;> rfl) rfl rfl rfl rfl ?_
    first | refine t_append_own rfl sli32 rfl rfl (by constructor) rfl (by (first | exact dTys_sz _ | exact dTms_sz _ | exact dInts_sz _ | exact sz_nil | exact sz_one rfl | exact sz_app (dTys_sz _) (sz_one rfl) | exact sz_app (dTms_sz _) (sz_one rfl))) (by (first | exact dTys_sz _ | exact dTms_sz _ | exact dInts_sz _ | exact sz_nil | exact sz_one rfl | exact sz_app (dTys_sz _) (sz_one rfl) | exact sz_app (dTms_sz _) (sz_one rfl))) (by (simp only [dTys_len, dTms_len, dInts_len, List.length_append, List.length_cons, List.length_nil, List.length_take]; omega)) rfl rfl rfl rfl ?_ | refine t_append rfl sli32 rfl (by first | exact VLe.nilfull | exact VLe.rfl) rfl (by constructor) (by (first | exact dTys_sz _ | exact dTms_sz _ | exact dInts_sz _ | exact sz_nil | exact sz_one rfl | exact sz_app (dTys_sz _) (sz_one rfl) | exact sz_app (dTms_sz _) (sz_one rfl))) (by (first | exact dTys_sz _ | exact dTms_sz _ | exact dInts_sz _ | exact sz_nil | exact sz_one rfl | exact sz_app (dTys_sz _) (sz_one rfl) | exact sz_app (dTms_sz _) (sz_one rfl))) (by (simp only [dTys_len, dTms_len, dInts_len, List.length_append, List.length_cons, List.length_nil, List.length_take]; omega)) rfl rfl rfl rfl rfl ?_
    refine t_assign rfl rfl rfl ?_
    refine tr_nil ?_
    show _ ∧ Weak _ _ _
    refine ⟨trivial, ?_⟩
    rw [show dTms (l.take (i + 1)) = dTms (l.take i) ++ [dTm l[i]] by rw [take_succ_of hg, dTms_push]]
    (refine weak_of ?_ ?_ rfl rfl rfl <;> (repeat' (first | exact trivial | refine ⟨⟨_, rfl, ?_⟩, ?_⟩ | exact OLe.rfl | refine OLe.cells ?_ | exact VLe.rfl | exact VLes.rfl | exact VLes.nil | refine VLes.cons ?_ ?_ | refine VLe.agg ?_ | refine VLe.tup ?_ | exact VLe.own | exact VLe.full | exact VLe.nils | exact VLe.any | exact VLe.clo | exact VLe.fn | refine VLe.intE ?_ | refine VLe.boolE ?_ | refine VLe.sliceE ?_ | refine VLe.ownE ?_ | refine VLe.ownO ?_ | refine VLe.fullE ?_ | refine VLe.nilsE ?_ | refine OLe.row ?_)))
  · skip
    change AC _ _ _ _ _
    refine ac_ts mixed ?_
    refine t_move rfl rfl rfl ?_
    refine t_move rfl rfl rfl ?_
    refine s_build (res := [_, _, _, _, _]) zer34 plc34 rfl rfl rfl rfl rfl ?_
    first | refine s_storeW ty34 rfl rfl rfl rfl rfl rfl rfl ?_ | refine s_store (ws := [_, _, _, _, _]) ty34 rfl rfl rfl rfl rfl rfl rfl rfl ?_
    refine tr_nil ?_
    refine ac_ret ?_
    refine ⟨.inr rfl, _, ⟨_, _, _, _, _, rfl, rfl, rfl, .inl (retAgg ty34 rfl), rfl⟩, ?_, ?_⟩
    · (repeat' (first | exact VLe.rfl | exact VLes.rfl | exact VLes.nil | refine VLes.cons ?_ ?_ | refine VLe.agg ?_ | refine VLe.tup ?_ | exact VLe.own | exact VLe.full | exact VLe.nils | exact VLe.any | exact VLe.clo | exact VLe.fn | refine VLe.intE ?_ | refine VLe.boolE ?_ | refine VLe.sliceE ?_ | refine VLe.ownE ?_ | refine VLe.ownO ?_ | refine VLe.fullE ?_ | refine VLe.nilsE ?_))
      rw [dTms_len, List.take_length]
    · (intro l o h; cases h)
theorem T_ev (k : Int) (s : Typ) (hs : s.sz ≤ 1000000) (l : List Trm) (ht : bigTms l ≤ 1000000) : Ev Tryd.prog GL 22 [.d (.int .i64 k), vTy s, .d (.slice (dTms l))] [] (vTm (.mk k 0 s l)) [] := by
  refine ev_of_body (N := 15) (ks := []) (ρ0 := [(0, _), (1, _), (2, _)]) (σ0 := []) (rs := [.cell 6 34]) Tryd.func22 rfl (by kernel_rfl) rfl rfl rfl rfl rfl rfl rfl rfl rfl rfl (fun E ι0 => ?_)
  refine ac_ts mixed ?_
  refine s_box 4 rfl rfl rfl rfl rfl ?_
  refine s_alloc 6 zer34 rfl rfl rfl rfl ?_
  refine tr_nil ?_
  refine ac_ts mixed ?_
  refine t_move rfl rfl rfl ?_
  refine t_move rfl rfl rfl ?_
  first | refine s_callF rfl .rfl (N_ev k l ht) rfl rfl ?_ | refine s_callF rfl (by (repeat' (first | exact VLes.rfl | exact VLes.nil | exact VLe.rfl | refine VLes.cons ?_ ?_ | exact VLe.own | exact VLe.full | exact VLe.nils | refine VLe.agg ?_ | exact VLe.fullE (dTms_one _) | exact VLe.fullE (dTms_two _ _) | exact VLe.fullE (dTms_three _ _ _) | exact VLe.fullE (dTys_one _) | exact VLe.fullE (dTys_two _ _) | exact VLe.fullE (dTys_three _ _ _)))) (N_ev k l ht) rfl rfl ?_
  refine s_alloc 7 zer34 rfl rfl rfl rfl ?_
  first | refine s_storeW ty34 rfl rfl rfl rfl rfl rfl rfl ?_ | refine s_store (ws := [_, _, _, _, _]) ty34 rfl rfl rfl rfl rfl rfl rfl rfl ?_
  refine tr_nil ?_
  refine ac_ts mixed ?_
  first | refine t_load ty30 rfl rfl rfl rfl rfl rfl ?_ | refine s_loadWc ty30 rfl rfl rfl rfl ?_ | refine t_loadN (us := [_, _]) ty30 rfl rfl rfl rfl rfl rfl ?_ | refine t_loadNc (us := [_, _]) ty30 rfl rfl rfl rfl rfl ?_
  first | refine s_callF rfl .rfl (r1_Copy_ev s hs) rfl rfl ?_ | refine s_callF rfl (by (repeat' (first | exact VLes.rfl | exact VLes.nil | exact VLe.rfl | refine VLes.cons ?_ ?_ | exact VLe.own | exact VLe.full | exact VLe.nils | refine VLe.agg ?_ | exact VLe.fullE (dTms_one _) | exact VLe.fullE (dTms_two _ _) | exact VLe.fullE (dTms_three _ _ _) | exact VLe.fullE (dTys_one _) | exact VLe.fullE (dTys_two _ _) | exact VLe.fullE (dTys_three _ _ _)))) (r1_Copy_ev s hs) rfl rfl ?_
  first | refine t_fieldAddr fld34_2 rfl rfl rfl ?_ | refine t_fieldAddr_c fld34_2 rfl rfl rfl rfl rfl ?_
  refine s_store (ws := [_, _, _, _, _]) ty30 rfl rfl rfl rfl rfl rfl rfl rfl ?_
  refine tr_nil ?_
  refine ac_ts mixed ?_
  first | refine t_load ty34 rfl rfl rfl rfl rfl rfl ?_ | refine s_loadWc ty34 rfl rfl rfl rfl ?_ | refine t_loadN (us := [_, _, _, _, _]) ty34 rfl rfl rfl rfl rfl rfl ?_ | refine t_loadNc (us := [_, _, _, _, _]) ty34 rfl rfl rfl rfl rfl ?_
  first | refine s_storeW ty34 rfl rfl rfl rfl rfl rfl rfl ?_ | refine s_store (ws := [_, _, _, _, _]) ty34 rfl rfl rfl rfl rfl rfl rfl rfl ?_
  refine tr_nil ?_
  refine ac_ret ?_
  refine ⟨.inr rfl, _, ⟨_, _, _, _, _, rfl, rfl, rfl, .inl (retAgg ty34 rfl), rfl⟩, ?_, ?_⟩
  · (repeat' (first | exact VLe.rfl | exact VLes.rfl | exact VLes.nil | refine VLes.cons ?_ ?_ | refine VLe.agg ?_ | refine VLe.tup ?_ | exact VLe.own | exact VLe.full | exact VLe.nils | exact VLe.any | exact VLe.clo | exact VLe.fn | refine VLe.intE ?_ | refine VLe.boolE ?_ | refine VLe.sliceE ?_ | refine VLe.ownE ?_ | refine VLe.ownO ?_ | refine VLe.fullE ?_ | refine VLe.nilsE ?_))
  · (intro l o h; cases h)
theorem r2_Var_ev (i : Int) : Ev Tryd.prog GL 21 [.d (.int .i64 i)] [] (vTm (.var i)) [] := by
  refine ev_of_body (N := 5) (ks := []) (ρ0 := [(0, _)]) (σ0 := []) (rs := [.cell 2 34]) Tryd.func21 rfl (by kernel_rfl) rfl rfl rfl rfl rfl rfl rfl rfl rfl rfl (fun E ι0 => ?_)
  refine ac_ts mixed ?_
  refine s_alloc 2 zer34 rfl rfl rfl rfl ?_
  refine tr_nil ?_
  refine ac_ts mixed ?_
  refine t_move rfl rfl rfl ?_
  refine s_build (res := [_, _, _, _, _]) zer34 plc34 rfl rfl rfl rfl rfl ?_
  first | refine s_storeW ty34 rfl rfl rfl rfl rfl rfl rfl ?_ | refine s_store (ws := [_, _, _, _, _]) ty34 rfl rfl rfl rfl rfl rfl rfl rfl ?_
  refine tr_nil ?_
  refine ac_ret ?_
  refine ⟨.inr rfl, _, ⟨_, _, _, _, _, rfl, rfl, rfl, .inl (retAgg ty34 rfl), rfl⟩, ?_, ?_⟩
  · (repeat' (first | exact VLe.rfl | exact VLes.rfl | exact VLes.nil | refine VLes.cons ?_ ?_ | refine VLe.agg ?_ | refine VLe.tup ?_ | exact VLe.own | exact VLe.full | exact VLe.nils | exact VLe.any | exact VLe.clo | exact VLe.fn | refine VLe.intE ?_ | refine VLe.boolE ?_ | refine VLe.sliceE ?_ | refine VLe.ownE ?_ | refine VLe.ownO ?_ | refine VLe.fullE ?_ | refine VLe.nilsE ?_))
  · (intro l o h; cases h)
theorem ok_ev (t : Typ) (ht : t.sz ≤ 1000000) : Ev Tryd.prog GL 77 [vTy t] [] (.tup [vTy (okT t).2, .d (.int .i64 (okT t).1)]) [] := by
  -- live at cond 0: t1(ptr), t2(ptr)
  refine ev_of_body (N := 9) (ks := []) (ρ0 := [(0, _)]) (σ0 := []) (rs := [.cell 2 30, .tmp 3]) Tryd.func77 rfl (by kernel_rfl) rfl rfl rfl rfl rfl rfl rfl rfl rfl rfl (fun E ι0 => ?_)
  refine ac_ts mixed ?_
  refine s_box 1 rfl rfl rfl rfl rfl ?_
  refine s_alloc 2 zer30 rfl rfl rfl rfl ?_
  refine t_assign rfl rfl rfl ?_
  refine tr_nil ?_
  refine ac_seq ?_
  refine ac_ts mixed ?_
  first | refine t_load ty30 rfl rfl rfl rfl rfl rfl ?_ | refine s_loadWc ty30 rfl rfl rfl rfl ?_ | refine t_loadN (us := [_, _]) ty30 rfl rfl rfl rfl rfl rfl ?_ | refine t_loadNc (us := [_, _]) ty30 rfl rfl rfl rfl rfl ?_
  first | refine s_callF rfl .rfl (r1_Check_ev t ht) rfl rfl ?_ | refine s_callF rfl (by (repeat' (first | exact VLes.rfl | exact VLes.nil | exact VLe.rfl | refine VLes.cons ?_ ?_ | exact VLe.own | exact VLe.full | exact VLe.nils | refine VLe.agg ?_ | exact VLe.fullE (dTms_one _) | exact VLe.fullE (dTms_two _ _) | exact VLe.fullE (dTms_three _ _ _) | exact VLe.fullE (dTys_one _) | exact VLe.fullE (dTys_two _ _) | exact VLe.fullE (dTys_three _ _ _)))) (r1_Check_ev t ht) rfl rfl ?_
  refine t_bin rfl rfl .neq rfl rfl ?_
  refine tr_nil ?_
  refine ac_bool (fun hb0 => ?_) (fun hb0 => ?_)
  · refine ac_cond rfl (fun _ => ?_) (fun hb => by cases hb)
    refine ac_ts mixed ?_
    refine s_build (res := [_, _]) zer30 plc30 rfl rfl rfl rfl rfl ?_
    first | refine s_storeW ty30 rfl rfl rfl rfl rfl rfl rfl ?_ | refine s_store (ws := [_, _]) ty30 rfl rfl rfl rfl rfl rfl rfl rfl ?_
    refine t_assign rfl rfl rfl ?_
    refine tr_nil ?_
    refine ac_ret ?_
    refine ⟨.inr rfl, _, ⟨_, _, _, _, _, rfl, rfl, rfl, .inl (retAgg ty30 rfl), ⟨_, _, rfl, rfl, rfl⟩⟩, ?_, ?_⟩
    · rw [show okT t = (4, .zero) by simp_all [okT]]
      (repeat' (first | exact VLe.rfl | exact VLes.rfl | exact VLes.nil | refine VLes.cons ?_ ?_ | refine VLe.agg ?_ | refine VLe.tup ?_ | exact VLe.own | exact VLe.full | exact VLe.nils | exact VLe.any | exact VLe.clo | exact VLe.fn | refine VLe.intE ?_ | refine VLe.boolE ?_ | refine VLe.sliceE ?_ | refine VLe.ownE ?_ | refine VLe.ownO ?_ | refine VLe.fullE ?_ | refine VLe.nilsE ?_))
    · (intro l o h; cases h)
  · refine ac_cond rfl (fun hb => by cases hb) (fun _ => ?_)
    refine ac_skip ?_
    change AC _ _ _ _ _
    refine ac_ts mixed ?_
    first | refine t_load ty30 rfl rfl rfl rfl rfl rfl ?_ | refine s_loadWc ty30 rfl rfl rfl rfl ?_ | refine t_loadN (us := [_, _]) ty30 rfl rfl rfl rfl rfl rfl ?_ | refine t_loadNc (us := [_, _]) ty30 rfl rfl rfl rfl rfl ?_
    first | refine s_storeW ty30 rfl rfl rfl rfl rfl rfl rfl ?_ | refine s_store (ws := [_, _]) ty30 rfl rfl rfl rfl rfl rfl rfl rfl ?_
    refine t_assign rfl rfl rfl ?_
    refine tr_nil ?_
    refine ac_ret ?_
    refine ⟨.inr rfl, _, ⟨_, _, _, _, _, rfl, rfl, rfl, .inl (retAgg ty30 rfl), ⟨_, _, rfl, rfl, rfl⟩⟩, ?_, ?_⟩
    · rw [show okT t = (0, t) by simp_all [okT]]
      (repeat' (first | exact VLe.rfl | exact VLes.rfl | exact VLes.nil | refine VLes.cons ?_ ?_ | refine VLe.agg ?_ | refine VLe.tup ?_ | exact VLe.own | exact VLe.full | exact VLe.nils | exact VLe.any | exact VLe.clo | exact VLe.fn | refine VLe.intE ?_ | refine VLe.boolE ?_ | refine VLe.sliceE ?_ | refine VLe.ownE ?_ | refine VLe.ownO ?_ | refine VLe.fullE ?_ | refine VLe.nilsE ?_))
    · (intro l o h; cases h)
end Go.AM

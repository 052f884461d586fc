/-
  Contracts: the numbers of nodes of types and terms.
-/
import Derived.Test.YtdbgmmeenljnoaaDoorAmFacts
set_option linter.unusedVariables false
set_option linter.unusedSimpArgs false
set_option maxRecDepth 20000
namespace Go.AM
open Go Go.RowKit Go.Proofs

theorem NoType_ev (t : Typ) : Ev Tryd.prog GL 84 [vTy t] [] (.d (.bool t.none)) [] := by
  refine ev_of_body (N := 12) (ks := []) (ρ0 := [(0, _)]) (σ0 := []) (rs := [.tmp 2]) Tryd.func84 rfl (by kernel_rfl) rfl rfl rfl rfl rfl rfl rfl rfl rfl rfl (fun E ι0 => ?_)
  refine ac_ts mixed ?_
  refine s_box 1 rfl rfl rfl rfl rfl ?_
  refine t_assign rfl rfl rfl ?_
  refine tr_nil ?_
  refine ac_ts mixed ?_
  first | refine t_fieldAddr fld30_0 rfl rfl rfl ?_ | refine t_fieldAddr_c fld30_0 rfl rfl rfl rfl rfl ?_
  first | refine t_load1 ty3 rfl rfl rfl rfl rfl ?_ | refine t_load1c ty3 rfl rfl rfl rfl ?_
  refine t_bin rfl rfl .eql rfl rfl ?_
  refine t_move rfl rfl rfl ?_
  refine tr_bool (fun h6 => ?_) (fun h6 => ?_)
  · first | refine t_fieldAddr fld30_1 rfl ⟨_, rfl, .inl ⟨_, rfl, rfl⟩⟩ rfl ?_ | refine t_fieldAddr_c fld30_1 rfl rfl ⟨_, rfl, .inl ⟨_, rfl, rfl⟩⟩ rfl rfl ?_
    first | refine t_load1 ty27 rfl rfl rfl ⟨_, rfl, .inl ⟨_, rfl, rfl⟩⟩ rfl ?_ | refine t_load1c ty27 rfl rfl ⟨_, rfl, .inl ⟨_, rfl, rfl⟩⟩ rfl ?_
    refine t_len rfl sli27 rfl (by constructor) ⟨_, rfl, .inl ⟨_, rfl, rfl⟩⟩ rfl ?_
    refine t_bin rfl rfl .eql ⟨_, rfl, .inl ⟨_, rfl, rfl⟩⟩ rfl ?_
    refine t_pick_t rfl rfl rfl rfl rfl ?_
    refine t_assign rfl rfl rfl ?_
    refine tr_nil ?_
    refine ac_ret ?_
    refine ⟨.inr rfl, _, ⟨_, _, rfl, rfl, rfl⟩, ?_, ?_⟩
    · (repeat' (first | exact VLe.rfl | exact VLes.rfl | exact VLes.nil | refine VLes.cons ?_ ?_ | refine VLe.agg ?_ | refine VLe.tup ?_ | exact VLe.own | exact VLe.full | exact VLe.nils | exact VLe.any | exact VLe.clo | exact VLe.fn | refine VLe.intE ?_ | refine VLe.boolE ?_ | refine VLe.sliceE ?_ | refine VLe.ownE ?_ | refine VLe.ownO ?_ | refine VLe.fullE ?_ | refine VLe.nilsE ?_))
      all_goals simp_all [Typ.none, dTys_len, nat_beq0]
    · (intro l o h; cases h)
  · refine t_skip ⟨_, rfl, .inl ⟨_, rfl, rfl⟩⟩ rfl ?_
    refine t_skip ⟨_, rfl, .inl ⟨_, rfl, rfl⟩⟩ rfl ?_
    refine t_skip ⟨_, rfl, .inl ⟨_, rfl, rfl⟩⟩ rfl ?_
    refine t_skip ⟨_, rfl, .inl ⟨_, rfl, rfl⟩⟩ rfl ?_
    refine t_pick_f rfl rfl rfl rfl rfl ?_
    refine t_assign rfl rfl rfl ?_
    refine tr_nil ?_
    refine ac_ret ?_
    refine ⟨.inr rfl, _, ⟨_, _, rfl, rfl, rfl⟩, ?_, ?_⟩
    · (repeat' (first | exact VLe.rfl | exact VLes.rfl | exact VLes.nil | refine VLes.cons ?_ ?_ | refine VLe.agg ?_ | refine VLe.tup ?_ | exact VLe.own | exact VLe.full | exact VLe.nils | exact VLe.any | exact VLe.clo | exact VLe.fn | refine VLe.intE ?_ | refine VLe.boolE ?_ | refine VLe.sliceE ?_ | refine VLe.ownE ?_ | refine VLe.ownO ?_ | refine VLe.fullE ?_ | refine VLe.nilsE ?_))
      all_goals simp_all [Typ.none, dTys_len, nat_beq0]
    · (intro l o h; cases h)
theorem Typed_ev (k : Int) : Ev Tryd.prog GL 82 [.d (.int .i64 k)] [] (.d (.bool (typed k))) [] := by
  refine ev_of_body (N := 13) (ks := []) (ρ0 := [(0, _)]) (σ0 := []) (rs := [.tmp 2]) Tryd.func82 rfl (by kernel_rfl) rfl rfl rfl rfl rfl rfl rfl rfl rfl rfl (fun E ι0 => ?_)
  refine ac_ts mixed ?_
  refine t_assign rfl rfl rfl ?_
  refine tr_nil ?_
  refine ac_ts mixed ?_
  refine t_move rfl rfl rfl ?_
  refine t_bin rfl rfl .eql rfl rfl ?_
  refine t_move rfl rfl rfl ?_
  refine tr_bool (fun h5 => ?_) (fun h5 => ?_)
  · refine t_skip ⟨_, rfl, .inl ⟨_, rfl, rfl⟩⟩ rfl ?_
    refine t_skip ⟨_, rfl, .inl ⟨_, rfl, rfl⟩⟩ rfl ?_
    refine t_pick_t rfl rfl rfl rfl rfl ?_
    refine t_move rfl rfl rfl ?_
    refine t_skip ⟨_, rfl, .inl ⟨_, rfl, rfl⟩⟩ rfl ?_
    refine t_skip ⟨_, rfl, .inl ⟨_, rfl, rfl⟩⟩ rfl ?_
    refine t_pick_t rfl rfl rfl rfl rfl ?_
    refine t_assign rfl rfl rfl ?_
    refine tr_nil ?_
    refine ac_ret ?_
    refine ⟨.inr rfl, _, ⟨_, _, rfl, rfl, rfl⟩, ?_, ?_⟩
    · (repeat' (first | exact VLe.rfl | exact VLes.rfl | exact VLes.nil | refine VLes.cons ?_ ?_ | refine VLe.agg ?_ | refine VLe.tup ?_ | exact VLe.own | exact VLe.full | exact VLe.nils | exact VLe.any | exact VLe.clo | exact VLe.fn | refine VLe.intE ?_ | refine VLe.boolE ?_ | refine VLe.sliceE ?_ | refine VLe.ownE ?_ | refine VLe.ownO ?_ | refine VLe.fullE ?_ | refine VLe.nilsE ?_))
      all_goals simp_all [typed]
    · (intro l o h; cases h)
  · refine t_move rfl ⟨_, rfl, .inl ⟨_, rfl, rfl⟩⟩ rfl ?_
    refine t_bin rfl rfl .eql ⟨_, rfl, .inl ⟨_, rfl, rfl⟩⟩ rfl ?_
    refine t_pick_f rfl rfl rfl rfl rfl ?_
    refine t_move rfl rfl rfl ?_
    refine tr_bool (fun h9 => ?_) (fun h9 => ?_)
    · refine t_skip ⟨_, rfl, .inl ⟨_, rfl, rfl⟩⟩ rfl ?_
      refine t_skip ⟨_, rfl, .inl ⟨_, rfl, rfl⟩⟩ rfl ?_
      refine t_pick_t rfl rfl rfl rfl rfl ?_
      refine t_assign rfl rfl rfl ?_
      refine tr_nil ?_
      refine ac_ret ?_
      refine ⟨.inr rfl, _, ⟨_, _, rfl, rfl, rfl⟩, ?_, ?_⟩
      · (repeat' (first | exact VLe.rfl | exact VLes.rfl | exact VLes.nil | refine VLes.cons ?_ ?_ | refine VLe.agg ?_ | refine VLe.tup ?_ | exact VLe.own | exact VLe.full | exact VLe.nils | exact VLe.any | exact VLe.clo | exact VLe.fn | refine VLe.intE ?_ | refine VLe.boolE ?_ | refine VLe.sliceE ?_ | refine VLe.ownE ?_ | refine VLe.ownO ?_ | refine VLe.fullE ?_ | refine VLe.nilsE ?_))
        all_goals simp_all [typed]
      · (intro l o h; cases h)
    · refine t_move rfl ⟨_, rfl, .inl ⟨_, rfl, rfl⟩⟩ rfl ?_
      refine t_bin rfl rfl .eql ⟨_, rfl, .inl ⟨_, rfl, rfl⟩⟩ rfl ?_
      refine t_pick_f rfl rfl rfl rfl rfl ?_
      refine t_assign rfl rfl rfl ?_
      refine tr_nil ?_
      refine ac_ret ?_
      refine ⟨.inr rfl, _, ⟨_, _, rfl, rfl, rfl⟩, ?_, ?_⟩
      · (repeat' (first | exact VLe.rfl | exact VLes.rfl | exact VLes.nil | refine VLes.cons ?_ ?_ | refine VLe.agg ?_ | refine VLe.tup ?_ | exact VLe.own | exact VLe.full | exact VLe.nils | exact VLe.any | exact VLe.clo | exact VLe.fn | refine VLe.intE ?_ | refine VLe.boolE ?_ | refine VLe.sliceE ?_ | refine VLe.ownE ?_ | refine VLe.ownO ?_ | refine VLe.fullE ?_ | refine VLe.nilsE ?_))
        all_goals simp_all [typed]
      · (intro l o h; cases h)
theorem typeNodes_ev (t : Typ) (ht : t.sz ≤ 1000000) : Ev Tryd.prog GL 98 [vTy t] [] (.tup [.d (.int .i64 (if t.shape then (t.sz : Int) else 0)), .d (.bool t.shape)]) [] := by
  induction t using Typ.ind with
  | _ k l ih =>
  have hl := szTys_len l
  have hs : szTys l < 1000000 := by simp [Typ.sz] at ht; omega
  have hlen : l.length ≤ 1000000 := by omega
  -- live at block 0: t1(ptr), t4
  -- live at block 1: t5
  -- live at block 2: t5, t25, t26, t27
  -- live at cond 0: t1(ptr), t4, t11, t12
  -- live at cond 1: t1(ptr), t4, t11, t12
  -- live at cond 2: t1(ptr), t4
  -- live at cond 3: t1(ptr), t16
  -- live at cond 4: t1(ptr), t4
  -- live at cond 5: t1(ptr)
  -- live at cond 6: t5, t25, t26, t27
  -- live at cond 7: t5, t8, t25, t26, t27
  -- live at loop 0: t5, t25, t26, t27
  refine ev_of_body (N := 43) (ks := []) (ρ0 := [(0, _)]) (σ0 := []) (rs := [.tmp 2, .tmp 3]) Tryd.func98 rfl (by kernel_rfl) rfl rfl rfl rfl rfl rfl rfl rfl rfl rfl (fun E ι0 => ?_)
  refine ac_ts mixed ?_
  refine s_box 1 rfl rfl rfl rfl rfl ?_
  refine t_assign rfl rfl rfl ?_
  refine t_assign rfl rfl rfl ?_
  refine tr_nil ?_
  refine ac_ts mixed ?_
  refine t_assign rfl rfl rfl ?_
  refine tr_nil ?_
  refine ac_join (fun (a : Int) => ⟨[(1, .ptr 1 0), (4, .d (.int .i64 a))], [(1, some (.cells ((dTy (.mk k l)).map V.d) 30))], [1]⟩) (fun (a : Int) => ∃ n : Nat, a = n ∧ wantTy k = some n) ?_ (fun a hj => ?_)
  · refine ac_ts mixed ?_
    first | refine t_fieldAddr fld30_0 rfl rfl rfl ?_ | refine t_fieldAddr_c fld30_0 rfl rfl rfl rfl rfl ?_
    first | refine t_load1 ty3 rfl rfl rfl rfl rfl ?_ | refine t_load1c ty3 rfl rfl rfl rfl ?_
    refine tr_nil ?_
    refine ac_block ?_
    refine ac_seq ?_
    refine ac_ts mixed ?_
    refine t_bin rfl rfl .eql rfl rfl ?_
    refine t_assign rfl rfl rfl ?_
    refine tr_nil ?_
    refine ac_bool (fun hb0 => ?_) (fun hb0 => ?_)
    · refine ac_cond rfl (fun _ => ?_) (fun hb => by cases hb)
      refine ac_skip ?_
      change AC _ _ _ _ _
      refine ac_cond rfl (fun hb => ?_) (fun hb => by cases hb)
      refine ac_skip ?_
      show ∃ a, _ ∧ Weak _ _ _
      refine ⟨?_, ?_, ?_⟩
      rotate_left 2
      · (refine weak_of ?_ ?_ rfl rfl rfl <;> (repeat' (first | exact trivial | refine ⟨⟨_, rfl, ?_⟩, ?_⟩ | exact OLe.rfl | refine OLe.cells ?_ | exact VLe.rfl | exact VLes.rfl | exact VLes.nil | refine VLes.cons ?_ ?_ | refine VLe.agg ?_ | refine VLe.tup ?_ | exact VLe.own | exact VLe.full | exact VLe.nils | exact VLe.any | exact VLe.clo | exact VLe.fn | refine VLe.intE ?_ | refine VLe.boolE ?_ | refine VLe.sliceE ?_ | refine VLe.ownE ?_ | refine VLe.ownO ?_ | refine VLe.fullE ?_ | refine VLe.nilsE ?_ | refine OLe.row ?_)))
      · first | exact ⟨0, rfl, by simp_all [wantTy, Typ.kind]⟩ | exact ⟨2, rfl, by simp_all [wantTy, Typ.kind]⟩
    · refine ac_cond rfl (fun hb => by cases hb) (fun _ => ?_)
      refine ac_ts mixed ?_
      refine t_bin rfl rfl .eql rfl rfl ?_
      refine t_assign rfl rfl rfl ?_
      refine tr_nil ?_
      refine ac_bool (fun hb1 => ?_) (fun hb1 => ?_)
      · refine ac_cond rfl (fun _ => ?_) (fun hb => by cases hb)
        refine ac_skip ?_
        change AC _ _ _ _ _
        refine ac_cond rfl (fun hb => ?_) (fun hb => by cases hb)
        refine ac_skip ?_
        show ∃ a, _ ∧ Weak _ _ _
        refine ⟨?_, ?_, ?_⟩
        rotate_left 2
        · (refine weak_of ?_ ?_ rfl rfl rfl <;> (repeat' (first | exact trivial | refine ⟨⟨_, rfl, ?_⟩, ?_⟩ | exact OLe.rfl | refine OLe.cells ?_ | exact VLe.rfl | exact VLes.rfl | exact VLes.nil | refine VLes.cons ?_ ?_ | refine VLe.agg ?_ | refine VLe.tup ?_ | exact VLe.own | exact VLe.full | exact VLe.nils | exact VLe.any | exact VLe.clo | exact VLe.fn | refine VLe.intE ?_ | refine VLe.boolE ?_ | refine VLe.sliceE ?_ | refine VLe.ownE ?_ | refine VLe.ownO ?_ | refine VLe.fullE ?_ | refine VLe.nilsE ?_ | refine OLe.row ?_)))
        · first | exact ⟨0, rfl, by simp_all [wantTy, Typ.kind]⟩ | exact ⟨2, rfl, by simp_all [wantTy, Typ.kind]⟩
      · refine ac_cond rfl (fun hb => by cases hb) (fun _ => ?_)
        refine ac_t mixed ?_
        refine t_bin rfl rfl .eql rfl rfl ?_
        refine t_assign rfl rfl rfl ?_
        refine tr_nil ?_
        change AC _ _ _ _ _
        refine ac_bool (fun hb2 => ?_) (fun hb2 => ?_)
        · refine ac_cond rfl (fun _ => ?_) (fun hb => by cases hb)
          refine ac_skip ?_
          show ∃ a, _ ∧ Weak _ _ _
          refine ⟨?_, ?_, ?_⟩
          rotate_left 2
          · (refine weak_of ?_ ?_ rfl rfl rfl <;> (repeat' (first | exact trivial | refine ⟨⟨_, rfl, ?_⟩, ?_⟩ | exact OLe.rfl | refine OLe.cells ?_ | exact VLe.rfl | exact VLes.rfl | exact VLes.nil | refine VLes.cons ?_ ?_ | refine VLe.agg ?_ | refine VLe.tup ?_ | exact VLe.own | exact VLe.full | exact VLe.nils | exact VLe.any | exact VLe.clo | exact VLe.fn | refine VLe.intE ?_ | refine VLe.boolE ?_ | refine VLe.sliceE ?_ | refine VLe.ownE ?_ | refine VLe.ownO ?_ | refine VLe.fullE ?_ | refine VLe.nilsE ?_ | refine OLe.row ?_)))
          · first | exact ⟨0, rfl, by simp_all [wantTy, Typ.kind]⟩ | exact ⟨2, rfl, by simp_all [wantTy, Typ.kind]⟩
        · refine ac_cond rfl (fun hb => by cases hb) (fun _ => ?_)
          refine ac_seq ?_
          refine ac_ts mixed ?_
          refine t_bin rfl rfl .eql rfl rfl ?_
          refine t_assign rfl rfl rfl ?_
          refine tr_nil ?_
          refine ac_bool (fun hb3 => ?_) (fun hb3 => ?_)
          · refine ac_cond rfl (fun _ => ?_) (fun hb => by cases hb)
            refine ac_skip ?_
            change AC _ _ _ _ _
            refine ac_cond rfl (fun hb => ?_) (fun hb => by cases hb)
            refine ac_t mixed ?_
            refine t_assign rfl rfl rfl ?_
            refine tr_nil ?_
            show ∃ a, _ ∧ Weak _ _ _
            refine ⟨?_, ?_, ?_⟩
            rotate_left 2
            · (refine weak_of ?_ ?_ rfl rfl rfl <;> (repeat' (first | exact trivial | refine ⟨⟨_, rfl, ?_⟩, ?_⟩ | exact OLe.rfl | refine OLe.cells ?_ | exact VLe.rfl | exact VLes.rfl | exact VLes.nil | refine VLes.cons ?_ ?_ | refine VLe.agg ?_ | refine VLe.tup ?_ | exact VLe.own | exact VLe.full | exact VLe.nils | exact VLe.any | exact VLe.clo | exact VLe.fn | refine VLe.intE ?_ | refine VLe.boolE ?_ | refine VLe.sliceE ?_ | refine VLe.ownE ?_ | refine VLe.ownO ?_ | refine VLe.fullE ?_ | refine VLe.nilsE ?_ | refine OLe.row ?_)))
            · first | exact ⟨0, rfl, by simp_all [wantTy, Typ.kind]⟩ | exact ⟨2, rfl, by simp_all [wantTy, Typ.kind]⟩
          · refine ac_cond rfl (fun hb => by cases hb) (fun _ => ?_)
            refine ac_t mixed ?_
            refine t_bin rfl rfl .eql rfl rfl ?_
            refine t_assign rfl rfl rfl ?_
            refine tr_nil ?_
            change AC _ _ _ _ _
            refine ac_bool (fun hb4 => ?_) (fun hb4 => ?_)
            · refine ac_cond rfl (fun _ => ?_) (fun hb => by cases hb)
              refine ac_t mixed ?_
              refine t_assign rfl rfl rfl ?_
              refine tr_nil ?_
              show ∃ a, _ ∧ Weak _ _ _
              refine ⟨?_, ?_, ?_⟩
              rotate_left 2
              · (refine weak_of ?_ ?_ rfl rfl rfl <;> (repeat' (first | exact trivial | refine ⟨⟨_, rfl, ?_⟩, ?_⟩ | exact OLe.rfl | refine OLe.cells ?_ | exact VLe.rfl | exact VLes.rfl | exact VLes.nil | refine VLes.cons ?_ ?_ | refine VLe.agg ?_ | refine VLe.tup ?_ | exact VLe.own | exact VLe.full | exact VLe.nils | exact VLe.any | exact VLe.clo | exact VLe.fn | refine VLe.intE ?_ | refine VLe.boolE ?_ | refine VLe.sliceE ?_ | refine VLe.ownE ?_ | refine VLe.ownO ?_ | refine VLe.fullE ?_ | refine VLe.nilsE ?_ | refine OLe.row ?_)))
              · first | exact ⟨0, rfl, by simp_all [wantTy, Typ.kind]⟩ | exact ⟨2, rfl, by simp_all [wantTy, Typ.kind]⟩
            · refine ac_cond rfl (fun hb => by cases hb) (fun _ => ?_)
              refine ac_ts mixed ?_
              refine t_assign rfl rfl rfl ?_
              refine t_assign rfl rfl rfl ?_
              refine tr_nil ?_
              refine ac_ret ?_
              refine ⟨.inr rfl, _, ⟨_, _, rfl, rfl, ⟨_, _, rfl, rfl, rfl⟩⟩, ?_, ?_⟩
              · have : wantTy k = none := by simp_all [wantTy, Typ.kind]
                rw [show (Typ.mk k l).shape = false by simp [Typ.shape, this]]
                (repeat' (first | exact VLe.rfl | exact VLes.rfl | exact VLes.nil | refine VLes.cons ?_ ?_ | refine VLe.agg ?_ | refine VLe.tup ?_ | exact VLe.own | exact VLe.full | exact VLe.nils | exact VLe.any | exact VLe.clo | exact VLe.fn | refine VLe.intE ?_ | refine VLe.boolE ?_ | refine VLe.sliceE ?_ | refine VLe.ownE ?_ | refine VLe.ownO ?_ | refine VLe.fullE ?_ | refine VLe.nilsE ?_))
              · (intro l o h; cases h)
  · obtain ⟨n, rfl, hj⟩ := hj
    refine ac_seq ?_
    refine ac_ts mixed ?_
    first | refine t_fieldAddr fld30_1 rfl rfl rfl ?_ | refine t_fieldAddr_c fld30_1 rfl rfl rfl rfl rfl ?_
    first | refine t_load1 ty27 rfl rfl rfl rfl rfl ?_ | refine t_load1c ty27 rfl rfl rfl rfl ?_
    refine t_len rfl sli27 rfl (by constructor) rfl rfl ?_
    refine t_move rfl rfl rfl ?_
    refine t_bin rfl rfl .neq rfl rfl ?_
    refine tr_nil ?_
    refine ac_bool (fun hb5 => ?_) (fun hb5 => ?_)
    · refine ac_cond rfl (fun _ => ?_) (fun hb => by cases hb)
      refine ac_ts mixed ?_
      refine t_assign rfl rfl rfl ?_
      refine t_assign rfl rfl rfl ?_
      refine tr_nil ?_
      refine ac_ret ?_
      refine ⟨.inr rfl, _, ⟨_, _, rfl, rfl, ⟨_, _, rfl, rfl, rfl⟩⟩, ?_, ?_⟩
      · rw [show (Typ.mk k l).shape = false by rw [Typ.shape, hj]; simp [dTys_len, Typ.args] at hb5; simp; intro h; omega]
        (repeat' (first | exact VLe.rfl | exact VLes.rfl | exact VLes.nil | refine VLes.cons ?_ ?_ | refine VLe.agg ?_ | refine VLe.tup ?_ | exact VLe.own | exact VLe.full | exact VLe.nils | exact VLe.any | exact VLe.clo | exact VLe.fn | refine VLe.intE ?_ | refine VLe.boolE ?_ | refine VLe.sliceE ?_ | refine VLe.ownE ?_ | refine VLe.ownO ?_ | refine VLe.fullE ?_ | refine VLe.nilsE ?_))
      · (intro l o h; cases h)
    · refine ac_cond rfl (fun hb => by cases hb) (fun _ => ?_)
      refine ac_skip ?_
      change AC _ _ _ _ _
      refine ac_ts mixed ?_
      refine t_assign rfl rfl rfl ?_
      refine tr_nil ?_
      refine ac_seq ?_
      refine ac_ts mixed ?_
      first | refine t_fieldAddr fld30_1 rfl rfl rfl ?_ | refine t_fieldAddr_c fld30_1 rfl rfl rfl rfl rfl ?_
      first | refine t_load1 ty27 rfl rfl rfl rfl rfl ?_ | refine t_load1c ty27 rfl rfl rfl rfl ?_
      refine t_len rfl sli27 rfl (by constructor) rfl rfl ?_
      refine t_move rfl rfl rfl ?_
      refine tr_nil ?_
      refine ac_range mixed ((dTys l).length) (fun i => [(5, .d (.int .i64 ((1 + szTys (l.take i) : Nat) : Int))), (25, .d (.slice (dTys l)))]) (fun i => []) (fun i => []) (fun i => ∀ (j : Nat) a, j < i → l[j]? = some a → a.shape = true) (by simp) ?_ (by first | omega | (simp only [dTys_len, dTms_len, dInts_len, List.length_append, List.length_cons, List.length_nil, List.length_take]; omega)) rfl (fun i => ⟨rfl, rfl⟩) (fun i hi hI => ?_) (fun hI => ?_)
      · (refine weak_of ?_ ?_ rfl rfl rfl <;> (repeat' (first | exact trivial | refine ⟨⟨_, rfl, ?_⟩, ?_⟩ | exact OLe.rfl | refine OLe.cells ?_ | exact VLe.rfl | exact VLes.rfl | exact VLes.nil | refine VLes.cons ?_ ?_ | refine VLe.agg ?_ | refine VLe.tup ?_ | exact VLe.own | exact VLe.full | exact VLe.nils | exact VLe.any | exact VLe.clo | exact VLe.fn | refine VLe.intE ?_ | refine VLe.boolE ?_ | refine VLe.sliceE ?_ | refine VLe.ownE ?_ | refine VLe.ownO ?_ | refine VLe.fullE ?_ | refine VLe.nilsE ?_ | refine OLe.row ?_)))
      · rw [dTys_len] at hi
        have hg : l[i]? = some l[i] := List.getElem?_eq_getElem hi
        have hget := dTys_get hg
        have hm := List.getElem_mem hi
        have hsz := szTys_mem hm
        refine ac_ts mixed ?_
        refine t_indexAddr sli27 rfl (by constructor) rfl (Int.natCast_nonneg _) hget rfl rfl rfl ?_
        first | refine t_load ty30 rfl rfl rfl rfl rfl rfl ?_ | refine s_loadWc ty30 rfl rfl rfl rfl ?_ | refine t_loadN (us := [_, _]) ty30 rfl rfl rfl rfl rfl rfl ?_ | refine t_loadNc (us := [_, _]) ty30 rfl rfl rfl rfl rfl ?_
        refine s_alloc 7 zer30 rfl rfl rfl rfl ?_
        first | refine s_storeW ty30 rfl rfl rfl rfl rfl rfl rfl ?_ | refine s_store (ws := [_, _]) ty30 rfl rfl rfl rfl rfl rfl rfl rfl ?_
        refine tr_nil ?_
        refine ac_ts mixed ?_
        first | refine t_load ty30 rfl rfl rfl rfl rfl rfl ?_ | refine s_loadWc ty30 rfl rfl rfl rfl ?_ | refine t_loadN (us := [_, _]) ty30 rfl rfl rfl rfl rfl rfl ?_ | refine t_loadNc (us := [_, _]) ty30 rfl rfl rfl rfl rfl ?_
        first | refine s_callF rfl .rfl (ih _ hm (by omega)) rfl rfl ?_ | refine s_callF rfl (by (repeat' (first | exact VLes.rfl | exact VLes.nil | exact VLe.rfl | refine VLes.cons ?_ ?_ | exact VLe.own | exact VLe.full | exact VLe.nils | refine VLe.agg ?_ | exact VLe.fullE (dTms_one _) | exact VLe.fullE (dTms_two _ _) | exact VLe.fullE (dTms_three _ _ _) | exact VLe.fullE (dTys_one _) | exact VLe.fullE (dTys_two _ _) | exact VLe.fullE (dTys_three _ _ _)))) (ih _ hm (by omega)) rfl rfl ?_
        refine t_move rfl rfl rfl ?_
        refine t_extract rfl rfl rfl rfl ?_
        refine t_extract rfl rfl rfl rfl ?_
        refine t_assign rfl rfl rfl ?_
        refine t_assign rfl rfl rfl ?_
        refine tr_nil ?_
        refine ac_seq ?_
        refine ac_ts mixed ?_
        refine t_move rfl rfl rfl ?_
        refine t_not rfl rfl rfl ?_
        refine tr_nil ?_
        refine ac_bool (fun hb7 => ?_) (fun hb7 => ?_)
        · refine ac_cond rfl (fun _ => ?_) (fun hb => by cases hb)
          refine ac_ts mixed ?_
          refine t_assign rfl rfl rfl ?_
          refine t_assign rfl rfl rfl ?_
          refine tr_nil ?_
          refine ac_ret ?_
          refine ⟨.inr rfl, _, ⟨_, _, rfl, rfl, ⟨_, _, rfl, rfl, rfl⟩⟩, ?_, ?_⟩
          · rw [show (Typ.mk k l).shape = false by rw [Bool.eq_false_iff]; intro h; simp [Typ.shape, shapeTys_iff] at h; simp [h.2 _ hm] at hb7]
            (repeat' (first | exact VLe.rfl | exact VLes.rfl | exact VLes.nil | refine VLes.cons ?_ ?_ | refine VLe.agg ?_ | refine VLe.tup ?_ | exact VLe.own | exact VLe.full | exact VLe.nils | exact VLe.any | exact VLe.clo | exact VLe.fn | refine VLe.intE ?_ | refine VLe.boolE ?_ | refine VLe.sliceE ?_ | refine VLe.ownE ?_ | refine VLe.ownO ?_ | refine VLe.fullE ?_ | refine VLe.nilsE ?_))
          · (intro l o h; cases h)
        · refine ac_cond rfl (fun hb => by cases hb) (fun _ => ?_)
          refine ac_skip ?_
          change AC _ _ _ _ _
          refine ac_t mixed ?_
          refine t_move rfl rfl rfl ?_
          refine t_move rfl rfl rfl ?_
          refine t_bin rfl rfl .add rfl rfl ?_
          refine t_assign rfl rfl rfl ?_
          refine tr_nil ?_
          show _ ∧ Weak _ _ _
          refine ⟨fun j a hj ha => by
             by_cases e : j = i
             · subst e; rw [hg] at ha; injection ha with ha; subst ha; simpa using hb7
             · exact hI j a (by omega) ha, ?_⟩
          have e1 : l[i].shape = true := by simpa using hb7
          have e2 := szTys_take_le l (i + 1)
          rw [szTys_take_succ hg] at e2
          rw [szTys_take_succ hg, e1]
          (refine weak_of ?_ ?_ rfl rfl rfl <;> (repeat' (first | exact trivial | refine ⟨⟨_, rfl, ?_⟩, ?_⟩ | exact OLe.rfl | refine OLe.cells ?_ | exact VLe.rfl | exact VLes.rfl | exact VLes.nil | refine VLes.cons ?_ ?_ | refine VLe.agg ?_ | refine VLe.tup ?_ | exact VLe.own | exact VLe.full | exact VLe.nils | exact VLe.any | exact VLe.clo | exact VLe.fn | refine VLe.intE ?_ | refine VLe.boolE ?_ | refine VLe.sliceE ?_ | refine VLe.ownE ?_ | refine VLe.ownO ?_ | refine VLe.fullE ?_ | refine VLe.nilsE ?_ | refine OLe.row ?_)))
          rw [if_pos rfl, i64_id (by omega) (by omega)]; omega
      · skip
        change AC _ _ _ _ _
        refine ac_ts mixed ?_
        refine t_move rfl rfl rfl ?_
        refine t_assign rfl rfl rfl ?_
        refine t_assign rfl rfl rfl ?_
        refine tr_nil ?_
        refine ac_ret ?_
        refine ⟨.inr rfl, _, ⟨_, _, rfl, rfl, ⟨_, _, rfl, rfl, rfl⟩⟩, ?_, ?_⟩
        · have e1 : (Typ.mk k l).shape = true := by
            simp only [Typ.shape, Bool.and_eq_true, beq_iff_eq, shapeTys_iff]
            refine ⟨by rw [hj]; simp [dTys_len, Typ.args] at hb5; simp; omega, fun a ha => ?_⟩
            obtain ⟨j, h1, h2⟩ := List.getElem_of_mem ha
            exact hI j a (by rw [dTys_len]; omega) (by rw [List.getElem?_eq_getElem h1, h2])
          rw [e1]
          (repeat' (first | exact VLe.rfl | exact VLes.rfl | exact VLes.nil | refine VLes.cons ?_ ?_ | refine VLe.agg ?_ | refine VLe.tup ?_ | exact VLe.own | exact VLe.full | exact VLe.nils | exact VLe.any | exact VLe.clo | exact VLe.fn | refine VLe.intE ?_ | refine VLe.boolE ?_ | refine VLe.sliceE ?_ | refine VLe.ownE ?_ | refine VLe.ownO ?_ | refine VLe.fullE ?_ | refine VLe.nilsE ?_))
          rw [if_pos rfl, dTys_len, List.take_length]; simp [Typ.sz]
        · (intro l o h; cases h)
theorem CheckType_ev (t : Typ) (ht : t.sz ≤ 1000000) : Ev Tryd.prog GL 83 [vTy t] [] (.tup [.d (.int .i64 (if t.err == 0 then (t.sz : Int) else 0)), .d (.int .i64 t.err)]) [] := by
  -- live at block 0: t4
  -- live at cond 0: t4
  -- live at cond 1: t4
  refine ev_of_body (N := 18) (ks := []) (ρ0 := [(0, _)]) (σ0 := []) (rs := [.tmp 2, .tmp 3]) Tryd.func83 rfl (by kernel_rfl) rfl rfl rfl rfl rfl rfl rfl rfl rfl rfl (fun E ι0 => ?_)
  refine ac_ts mixed ?_
  refine s_box 1 rfl rfl rfl rfl rfl ?_
  refine t_assign rfl rfl rfl ?_
  refine t_assign rfl rfl rfl ?_
  refine tr_nil ?_
  refine ac_ts mixed ?_
  first | refine t_load ty30 rfl rfl rfl rfl rfl rfl ?_ | refine s_loadWc ty30 rfl rfl rfl rfl ?_ | refine t_loadN (us := [_, _]) ty30 rfl rfl rfl rfl rfl rfl ?_ | refine t_loadNc (us := [_, _]) ty30 rfl rfl rfl rfl rfl ?_
  first | refine s_callF rfl .rfl (typeNodes_ev t ht) rfl rfl ?_ | refine s_callF rfl (by (repeat' (first | exact VLes.rfl | exact VLes.nil | exact VLe.rfl | refine VLes.cons ?_ ?_ | exact VLe.own | exact VLe.full | exact VLe.nils | refine VLe.agg ?_ | exact VLe.fullE (dTms_one _) | exact VLe.fullE (dTms_two _ _) | exact VLe.fullE (dTms_three _ _ _) | exact VLe.fullE (dTys_one _) | exact VLe.fullE (dTys_two _ _) | exact VLe.fullE (dTys_three _ _ _)))) (typeNodes_ev t ht) rfl rfl ?_
  refine t_move rfl rfl rfl ?_
  refine t_extract rfl rfl rfl rfl ?_
  refine t_extract rfl rfl rfl rfl ?_
  refine t_assign rfl rfl rfl ?_
  refine t_assign rfl rfl rfl ?_
  refine tr_nil ?_
  refine ac_seq ?_
  refine ac_block ?_
  refine ac_ts mixed ?_
  refine t_move rfl rfl rfl ?_
  refine t_not rfl rfl rfl ?_
  refine t_assign rfl rfl rfl ?_
  refine tr_nil ?_
  refine ac_bool (fun hb0 => ?_) (fun hb0 => ?_)
  · refine ac_cond rfl (fun _ => ?_) (fun hb => by cases hb)
    refine ac_ts mixed ?_
    refine t_assign rfl rfl rfl ?_
    refine t_assign rfl rfl rfl ?_
    refine tr_nil ?_
    refine ac_ret ?_
    refine ⟨.inr rfl, _, ⟨_, _, rfl, rfl, ⟨_, _, rfl, rfl, rfl⟩⟩, ?_, ?_⟩
    · have e : t.err = 2 := by simp_all [Typ.err]
      rw [e]
      (repeat' (first | exact VLe.rfl | exact VLes.rfl | exact VLes.nil | refine VLes.cons ?_ ?_ | refine VLe.agg ?_ | refine VLe.tup ?_ | exact VLe.own | exact VLe.full | exact VLe.nils | exact VLe.any | exact VLe.clo | exact VLe.fn | refine VLe.intE ?_ | refine VLe.boolE ?_ | refine VLe.sliceE ?_ | refine VLe.ownE ?_ | refine VLe.ownO ?_ | refine VLe.fullE ?_ | refine VLe.nilsE ?_))
    · (intro l o h; cases h)
  · refine ac_cond rfl (fun hb => by cases hb) (fun _ => ?_)
    refine ac_ts mixed ?_
    refine t_move rfl rfl rfl ?_
    refine t_bin rfl rfl .gtr rfl rfl ?_
    refine t_assign rfl rfl rfl ?_
    refine tr_nil ?_
    refine ac_bool (fun hb1 => ?_) (fun hb1 => ?_)
    · refine ac_cond rfl (fun _ => ?_) (fun hb => by cases hb)
      refine ac_ts mixed ?_
      refine t_assign rfl rfl rfl ?_
      refine t_assign rfl rfl rfl ?_
      refine tr_nil ?_
      refine ac_ret ?_
      refine ⟨.inr rfl, _, ⟨_, _, rfl, rfl, ⟨_, _, rfl, rfl, rfl⟩⟩, ?_, ?_⟩
      · have e : t.err = 4 := by simp_all [Typ.err]; omega
        rw [e]
        (repeat' (first | exact VLe.rfl | exact VLes.rfl | exact VLes.nil | refine VLes.cons ?_ ?_ | refine VLe.agg ?_ | refine VLe.tup ?_ | exact VLe.own | exact VLe.full | exact VLe.nils | exact VLe.any | exact VLe.clo | exact VLe.fn | refine VLe.intE ?_ | refine VLe.boolE ?_ | refine VLe.sliceE ?_ | refine VLe.ownE ?_ | refine VLe.ownO ?_ | refine VLe.fullE ?_ | refine VLe.nilsE ?_))
      · (intro l o h; cases h)
    · refine ac_cond rfl (fun hb => by cases hb) (fun _ => ?_)
      refine ac_skip ?_
      change AC _ _ _ _ _
      refine ac_ts mixed ?_
      refine t_move rfl rfl rfl ?_
      refine t_assign rfl rfl rfl ?_
      refine t_assign rfl rfl rfl ?_
      refine tr_nil ?_
      refine ac_ret ?_
      refine ⟨.inr rfl, _, ⟨_, _, rfl, rfl, ⟨_, _, rfl, rfl, rfl⟩⟩, ?_, ?_⟩
      · have e : t.err = 0 := by simp_all [Typ.err]; omega
        rw [e]
        (repeat' (first | exact VLe.rfl | exact VLes.rfl | exact VLes.nil | refine VLes.cons ?_ ?_ | refine VLe.agg ?_ | refine VLe.tup ?_ | exact VLe.own | exact VLe.full | exact VLe.nils | exact VLe.any | exact VLe.clo | exact VLe.fn | refine VLe.intE ?_ | refine VLe.boolE ?_ | refine VLe.sliceE ?_ | refine VLe.ownE ?_ | refine VLe.ownO ?_ | refine VLe.fullE ?_ | refine VLe.nilsE ?_))
        simp_all
      · (intro l o h; cases h)
theorem Arity_ev (k : Int) : Ev Tryd.prog GL 81 [.d (.int .i64 k)] [] (.tup [.d (.int .i64 (match arity k with | some n => (n : Int) | none => 0)), .d (.bool (arity k).isSome)]) [] := by
  -- live at cond 0: t0
  refine ev_of_body (N := 13) (ks := []) (ρ0 := [(0, _)]) (σ0 := []) (rs := [.tmp 2, .tmp 3]) Tryd.func81 rfl (by kernel_rfl) rfl rfl rfl rfl rfl rfl rfl rfl rfl rfl (fun E ι0 => ?_)
  refine ac_ts mixed ?_
  refine t_assign rfl rfl rfl ?_
  refine t_assign rfl rfl rfl ?_
  refine tr_nil ?_
  refine ac_seq ?_
  refine ac_ts mixed ?_
  refine t_move rfl rfl rfl ?_
  refine t_bin rfl rfl .lss rfl rfl ?_
  refine t_move rfl rfl rfl ?_
  refine tr_bool (fun h6 => ?_) (fun h6 => ?_)
  · refine t_skip ⟨_, rfl, .inl ⟨_, rfl, rfl⟩⟩ rfl ?_
    refine t_skip ⟨_, rfl, .inl ⟨_, rfl, rfl⟩⟩ rfl ?_
    refine t_pick_t rfl rfl rfl rfl rfl ?_
    refine tr_nil ?_
    refine ac_cond rfl (fun hb => ?_) (fun hb => by cases hb)
    refine ac_ts mixed ?_
    refine t_assign rfl rfl rfl ?_
    refine t_assign rfl rfl rfl ?_
    refine tr_nil ?_
    refine ac_ret ?_
    refine ⟨.inr rfl, _, ⟨_, _, rfl, rfl, ⟨_, _, rfl, rfl, rfl⟩⟩, ?_, ?_⟩
    · have e : arity k = none := arity_none (by simp_all)
      rw [e]
      (repeat' (first | exact VLe.rfl | exact VLes.rfl | exact VLes.nil | refine VLes.cons ?_ ?_ | refine VLe.agg ?_ | refine VLe.tup ?_ | exact VLe.own | exact VLe.full | exact VLe.nils | exact VLe.any | exact VLe.clo | exact VLe.fn | refine VLe.intE ?_ | refine VLe.boolE ?_ | refine VLe.sliceE ?_ | refine VLe.ownE ?_ | refine VLe.ownO ?_ | refine VLe.fullE ?_ | refine VLe.nilsE ?_))
    · (intro l o h; cases h)
  · refine t_move rfl ⟨_, rfl, .inl ⟨_, rfl, rfl⟩⟩ rfl ?_
    refine t_bin rfl rfl .geq ⟨_, rfl, .inl ⟨_, rfl, rfl⟩⟩ rfl ?_
    refine t_pick_f rfl rfl rfl rfl rfl ?_
    refine tr_nil ?_
    refine ac_bool (fun hb0 => ?_) (fun hb0 => ?_)
    · refine ac_cond rfl (fun _ => ?_) (fun hb => by cases hb)
      refine ac_ts mixed ?_
      refine t_assign rfl rfl rfl ?_
      refine t_assign rfl rfl rfl ?_
      refine tr_nil ?_
      refine ac_ret ?_
      refine ⟨.inr rfl, _, ⟨_, _, rfl, rfl, ⟨_, _, rfl, rfl, rfl⟩⟩, ?_, ?_⟩
      · have e : arity k = none := arity_none (by simp_all)
        rw [e]
        (repeat' (first | exact VLe.rfl | exact VLes.rfl | exact VLes.nil | refine VLes.cons ?_ ?_ | refine VLe.agg ?_ | refine VLe.tup ?_ | exact VLe.own | exact VLe.full | exact VLe.nils | exact VLe.any | exact VLe.clo | exact VLe.fn | refine VLe.intE ?_ | refine VLe.boolE ?_ | refine VLe.sliceE ?_ | refine VLe.ownE ?_ | refine VLe.ownO ?_ | refine VLe.fullE ?_ | refine VLe.nilsE ?_))
      · (intro l o h; cases h)
    · refine ac_cond rfl (fun hb => by cases hb) (fun _ => ?_)
      refine ac_skip ?_
      change AC _ _ _ _ _
      refine ac_ts mixed ?_
      simp at h6 hb0
      obtain ⟨n, hn, hd⟩ := arity_some (by omega : 1 ≤ k) (by omega)
      refine t_move rfl rfl rfl ?_
      refine t_indexArr_c arr112 rfl rfl (by omega) (by omega) rfl (show k.toNat * 1 ≤ 14 by omega) rfl rfl ?_
      refine t_load1c ty3 rfl hd rfl rfl ?_
      refine t_assign rfl rfl rfl ?_
      refine t_assign rfl rfl rfl ?_
      refine tr_nil ?_
      refine ac_ret ?_
      refine ⟨.inr rfl, _, ⟨_, _, rfl, rfl, ⟨_, _, rfl, rfl, rfl⟩⟩, ?_, ?_⟩
      · rw [hn]
        (repeat' (first | exact VLe.rfl | exact VLes.rfl | exact VLes.nil | refine VLes.cons ?_ ?_ | refine VLe.agg ?_ | refine VLe.tup ?_ | exact VLe.own | exact VLe.full | exact VLe.nils | exact VLe.any | exact VLe.clo | exact VLe.fn | refine VLe.intE ?_ | refine VLe.boolE ?_ | refine VLe.sliceE ?_ | refine VLe.ownE ?_ | refine VLe.ownO ?_ | refine VLe.fullE ?_ | refine VLe.nilsE ?_))
      · (intro l o h; cases h)
theorem termNodes_ev (t : Trm) (ht : t.big ≤ 1000000) : Ev Tryd.prog GL 70 [vTm t] [] (.tup [.d (.int .i64 (if t.shape then (t.sz : Int) else 0)), .d (.bool t.shape)]) [] := by
  induction t using Trm.ind with
  | _ k ix ty l ih =>
  have hl := bigTms_len l
  have hs : bigTms l < 1000000 := by simp [Trm.big] at ht; omega
  have hty : ty.sz ≤ 1000000 := by simp [Trm.big] at ht; omega
  have hlen : l.length ≤ 1000000 := by omega
  show Ev _ _ _ [.agg [.d (.int .i64 k), .d (.int .i64 ix), .d (.int .i64 ty.kind), .d (.slice (dTys ty.args)), .d (.slice (dTms l))]] [] _ []
  -- live at block 0: t8
  -- live at block 1: t8, t59, t60, t61
  -- live at cond 0: t1(ptr)
  -- live at cond 1: t1(ptr)
  -- live at cond 2: t1(ptr)
  -- live at cond 3: t1(ptr)
  -- live at cond 4: t8, t59, t60, t61
  -- live at cond 5: t8, t11, t59, t60, t61
  -- live at loop 0: t8, t59, t60, t61
  refine ev_of_body (N := 77) (ks := []) (ρ0 := [(0, _)]) (σ0 := []) (rs := [.tmp 2, .tmp 3]) Tryd.func70 rfl (by kernel_rfl) rfl rfl rfl rfl rfl rfl rfl rfl rfl rfl (fun E ι0 => ?_)
  refine ac_ts mixed ?_
  refine s_box 1 rfl rfl rfl rfl rfl ?_
  refine t_assign rfl rfl rfl ?_
  refine t_assign rfl rfl rfl ?_
  refine tr_nil ?_
  refine ac_ts mixed ?_
  first | refine t_fieldAddr fld34_0 rfl rfl rfl ?_ | refine t_fieldAddr_c fld34_0 rfl rfl rfl rfl rfl ?_
  first | refine t_load1 ty3 rfl rfl rfl rfl rfl ?_ | refine t_load1c ty3 rfl rfl rfl rfl ?_
  first | refine s_callF rfl .rfl (Arity_ev k) rfl rfl ?_ | refine s_callF rfl (by (repeat' (first | exact VLes.rfl | exact VLes.nil | exact VLe.rfl | refine VLes.cons ?_ ?_ | exact VLe.own | exact VLe.full | exact VLe.nils | refine VLe.agg ?_ | exact VLe.fullE (dTms_one _) | exact VLe.fullE (dTms_two _ _) | exact VLe.fullE (dTms_three _ _ _) | exact VLe.fullE (dTys_one _) | exact VLe.fullE (dTys_two _ _) | exact VLe.fullE (dTys_three _ _ _)))) (Arity_ev k) rfl rfl ?_
  refine t_move rfl rfl rfl ?_
  refine t_extract rfl rfl rfl rfl ?_
  refine t_extract rfl rfl rfl rfl ?_
  refine t_assign rfl rfl rfl ?_
  refine t_assign rfl rfl rfl ?_
  refine tr_nil ?_
  refine ac_join (fun (u : Unit) => ⟨[(1, .ptr 1 0)], [(1, some (.cells [.d (.int .i64 k), .d (.int .i64 ix), .d (.int .i64 ty.kind), .d (.slice (dTys ty.args)), .d (.slice (dTms l))] 34))], [1]⟩) (fun (u : Unit) => arity k = some l.length ∧ 0 ≤ ix ∧ (ix = 0 ∨ k = 1)) ?_ (fun u hj => ?_)
  · refine ac_ts mixed ?_
    refine t_move rfl rfl rfl ?_
    refine t_not rfl rfl rfl ?_
    refine t_move rfl rfl rfl ?_
    refine tr_bool (fun h21 => ?_) (fun h21 => ?_)
    · refine t_skip ⟨_, rfl, .inl ⟨_, rfl, rfl⟩⟩ rfl ?_
      refine t_skip ⟨_, rfl, .inl ⟨_, rfl, rfl⟩⟩ rfl ?_
      refine t_skip ⟨_, rfl, .inl ⟨_, rfl, rfl⟩⟩ rfl ?_
      refine t_skip ⟨_, rfl, .inl ⟨_, rfl, rfl⟩⟩ rfl ?_
      refine t_skip ⟨_, rfl, .inl ⟨_, rfl, rfl⟩⟩ rfl ?_
      refine t_pick_t rfl rfl rfl rfl rfl ?_
      refine t_move rfl rfl rfl ?_
      refine t_skip ⟨_, rfl, .inl ⟨_, rfl, rfl⟩⟩ rfl ?_
      refine t_skip ⟨_, rfl, .inl ⟨_, rfl, rfl⟩⟩ rfl ?_
      refine t_skip ⟨_, rfl, .inl ⟨_, rfl, rfl⟩⟩ rfl ?_
      refine t_pick_t rfl rfl rfl rfl rfl ?_
      refine t_move rfl rfl rfl ?_
      refine t_skip ⟨_, rfl, .inl ⟨_, rfl, rfl⟩⟩ rfl ?_
      refine t_skip ⟨_, rfl, .inl ⟨_, rfl, rfl⟩⟩ rfl ?_
      refine t_skip ⟨_, rfl, .inl ⟨_, rfl, rfl⟩⟩ rfl ?_
      refine t_skip ⟨_, rfl, .inl ⟨_, rfl, rfl⟩⟩ rfl ?_
      refine t_skip ⟨_, rfl, .inr ⟨rfl, rfl⟩⟩ rfl ?_
      refine t_skip ⟨_, rfl, .inr ⟨rfl, rfl⟩⟩ rfl ?_
      refine t_skip ⟨_, rfl, .inr ⟨rfl, rfl⟩⟩ rfl ?_
      refine t_skip ⟨_, rfl, .inl ⟨_, rfl, rfl⟩⟩ rfl ?_
      refine t_pick_t rfl rfl rfl rfl rfl ?_
      refine tr_nil ?_
      refine ac_cond rfl (fun hb => ?_) (fun hb => by cases hb)
      refine ac_ts mixed ?_
      refine t_assign rfl rfl rfl ?_
      refine t_assign rfl rfl rfl ?_
      refine tr_nil ?_
      refine ac_ret ?_
      refine ⟨.inr rfl, _, ⟨_, _, rfl, rfl, ⟨_, _, rfl, rfl, rfl⟩⟩, ?_, ?_⟩
      · have e : (Trm.mk k ix ty l).shape = false := by
          rw [Bool.eq_false_iff]; intro h; rw [Trm.shape_iff] at h; obtain ⟨h1, h2, h3, h4, h5⟩ := h
          first | (simp at h33; omega) | (simp_all [dTms_len]; done) | (simp_all [dTms_len]; omega)
        rw [e]
        (repeat' (first | exact VLe.rfl | exact VLes.rfl | exact VLes.nil | refine VLes.cons ?_ ?_ | refine VLe.agg ?_ | refine VLe.tup ?_ | exact VLe.own | exact VLe.full | exact VLe.nils | exact VLe.any | exact VLe.clo | exact VLe.fn | refine VLe.intE ?_ | refine VLe.boolE ?_ | refine VLe.sliceE ?_ | refine VLe.ownE ?_ | refine VLe.ownO ?_ | refine VLe.fullE ?_ | refine VLe.nilsE ?_))
      · (intro l o h; cases h)
    · first | refine t_fieldAddr fld34_3 rfl ⟨_, rfl, .inl ⟨_, rfl, rfl⟩⟩ rfl ?_ | refine t_fieldAddr_c fld34_3 rfl rfl ⟨_, rfl, .inl ⟨_, rfl, rfl⟩⟩ rfl rfl ?_
      first | refine t_load1 ty32 rfl rfl rfl ⟨_, rfl, .inl ⟨_, rfl, rfl⟩⟩ rfl ?_ | refine t_load1c ty32 rfl rfl ⟨_, rfl, .inl ⟨_, rfl, rfl⟩⟩ rfl ?_
      refine t_len rfl sli32 rfl (by constructor) ⟨_, rfl, .inl ⟨_, rfl, rfl⟩⟩ rfl ?_
      refine t_move rfl ⟨_, rfl, .inl ⟨_, rfl, rfl⟩⟩ rfl ?_
      refine t_bin rfl rfl .neq ⟨_, rfl, .inl ⟨_, rfl, rfl⟩⟩ rfl ?_
      refine t_pick_f rfl rfl rfl rfl rfl ?_
      refine t_move rfl rfl rfl ?_
      refine tr_bool (fun h28 => ?_) (fun h28 => ?_)
      · refine t_skip ⟨_, rfl, .inl ⟨_, rfl, rfl⟩⟩ rfl ?_
        refine t_skip ⟨_, rfl, .inl ⟨_, rfl, rfl⟩⟩ rfl ?_
        refine t_skip ⟨_, rfl, .inl ⟨_, rfl, rfl⟩⟩ rfl ?_
        refine t_pick_t rfl rfl rfl rfl rfl ?_
        refine t_move rfl rfl rfl ?_
        refine t_skip ⟨_, rfl, .inl ⟨_, rfl, rfl⟩⟩ rfl ?_
        refine t_skip ⟨_, rfl, .inl ⟨_, rfl, rfl⟩⟩ rfl ?_
        refine t_skip ⟨_, rfl, .inl ⟨_, rfl, rfl⟩⟩ rfl ?_
        refine t_skip ⟨_, rfl, .inl ⟨_, rfl, rfl⟩⟩ rfl ?_
        refine t_skip ⟨_, rfl, .inr ⟨rfl, rfl⟩⟩ rfl ?_
        refine t_skip ⟨_, rfl, .inr ⟨rfl, rfl⟩⟩ rfl ?_
        refine t_skip ⟨_, rfl, .inr ⟨rfl, rfl⟩⟩ rfl ?_
        refine t_skip ⟨_, rfl, .inl ⟨_, rfl, rfl⟩⟩ rfl ?_
        refine t_pick_t rfl rfl rfl rfl rfl ?_
        refine tr_nil ?_
        refine ac_cond rfl (fun hb => ?_) (fun hb => by cases hb)
        refine ac_ts mixed ?_
        refine t_assign rfl rfl rfl ?_
        refine t_assign rfl rfl rfl ?_
        refine tr_nil ?_
        refine ac_ret ?_
        refine ⟨.inr rfl, _, ⟨_, _, rfl, rfl, ⟨_, _, rfl, rfl, rfl⟩⟩, ?_, ?_⟩
        · have e : (Trm.mk k ix ty l).shape = false := by
            rw [Bool.eq_false_iff]; intro h; rw [Trm.shape_iff] at h; obtain ⟨h1, h2, h3, h4, h5⟩ := h
            first | (simp at h33; omega) | (simp_all [dTms_len]; done) | (simp_all [dTms_len]; omega)
          rw [e]
          (repeat' (first | exact VLe.rfl | exact VLes.rfl | exact VLes.nil | refine VLes.cons ?_ ?_ | refine VLe.agg ?_ | refine VLe.tup ?_ | exact VLe.own | exact VLe.full | exact VLe.nils | exact VLe.any | exact VLe.clo | exact VLe.fn | refine VLe.intE ?_ | refine VLe.boolE ?_ | refine VLe.sliceE ?_ | refine VLe.ownE ?_ | refine VLe.ownO ?_ | refine VLe.fullE ?_ | refine VLe.nilsE ?_))
        · (intro l o h; cases h)
      · first | refine t_fieldAddr fld34_1 rfl ⟨_, rfl, .inl ⟨_, rfl, rfl⟩⟩ rfl ?_ | refine t_fieldAddr_c fld34_1 rfl rfl ⟨_, rfl, .inl ⟨_, rfl, rfl⟩⟩ rfl rfl ?_
        first | refine t_load1 ty3 rfl rfl rfl ⟨_, rfl, .inl ⟨_, rfl, rfl⟩⟩ rfl ?_ | refine t_load1c ty3 rfl rfl ⟨_, rfl, .inl ⟨_, rfl, rfl⟩⟩ rfl ?_
        refine t_bin rfl rfl .lss ⟨_, rfl, .inl ⟨_, rfl, rfl⟩⟩ rfl ?_
        refine t_pick_f rfl rfl rfl rfl rfl ?_
        refine t_move rfl rfl rfl ?_
        refine tr_bool (fun h33 => ?_) (fun h33 => ?_)
        · refine t_skip ⟨_, rfl, .inl ⟨_, rfl, rfl⟩⟩ rfl ?_
          refine t_skip ⟨_, rfl, .inl ⟨_, rfl, rfl⟩⟩ rfl ?_
          refine t_skip ⟨_, rfl, .inl ⟨_, rfl, rfl⟩⟩ rfl ?_
          refine t_skip ⟨_, rfl, .inl ⟨_, rfl, rfl⟩⟩ rfl ?_
          refine t_skip ⟨_, rfl, .inr ⟨rfl, rfl⟩⟩ rfl ?_
          refine t_skip ⟨_, rfl, .inr ⟨rfl, rfl⟩⟩ rfl ?_
          refine t_skip ⟨_, rfl, .inr ⟨rfl, rfl⟩⟩ rfl ?_
          refine t_skip ⟨_, rfl, .inl ⟨_, rfl, rfl⟩⟩ rfl ?_
          refine t_pick_t rfl rfl rfl rfl rfl ?_
          refine tr_nil ?_
          refine ac_cond rfl (fun hb => ?_) (fun hb => by cases hb)
          refine ac_ts mixed ?_
          refine t_assign rfl rfl rfl ?_
          refine t_assign rfl rfl rfl ?_
          refine tr_nil ?_
          refine ac_ret ?_
          refine ⟨.inr rfl, _, ⟨_, _, rfl, rfl, ⟨_, _, rfl, rfl, rfl⟩⟩, ?_, ?_⟩
          · have e : (Trm.mk k ix ty l).shape = false := by
              rw [Bool.eq_false_iff]; intro h; rw [Trm.shape_iff] at h; obtain ⟨h1, h2, h3, h4, h5⟩ := h
              first | (simp at h33; omega) | (simp_all [dTms_len]; done) | (simp_all [dTms_len]; omega)
            rw [e]
            (repeat' (first | exact VLe.rfl | exact VLes.rfl | exact VLes.nil | refine VLes.cons ?_ ?_ | refine VLe.agg ?_ | refine VLe.tup ?_ | exact VLe.own | exact VLe.full | exact VLe.nils | exact VLe.any | exact VLe.clo | exact VLe.fn | refine VLe.intE ?_ | refine VLe.boolE ?_ | refine VLe.sliceE ?_ | refine VLe.ownE ?_ | refine VLe.ownO ?_ | refine VLe.fullE ?_ | refine VLe.nilsE ?_))
          · (intro l o h; cases h)
        · first | refine t_fieldAddr fld34_1 rfl ⟨_, rfl, .inl ⟨_, rfl, rfl⟩⟩ rfl ?_ | refine t_fieldAddr_c fld34_1 rfl rfl ⟨_, rfl, .inl ⟨_, rfl, rfl⟩⟩ rfl rfl ?_
          first | refine t_load1 ty3 rfl rfl rfl ⟨_, rfl, .inl ⟨_, rfl, rfl⟩⟩ rfl ?_ | refine t_load1c ty3 rfl rfl ⟨_, rfl, .inl ⟨_, rfl, rfl⟩⟩ rfl ?_
          refine t_bin rfl rfl .neq ⟨_, rfl, .inl ⟨_, rfl, rfl⟩⟩ rfl ?_
          refine t_move rfl ⟨_, rfl, .inl ⟨_, rfl, rfl⟩⟩ rfl ?_
          refine tr_bool (fun h37 => ?_) (fun h37 => ?_)
          · first | refine t_fieldAddr fld34_0 rfl ⟨_, rfl, .inl ⟨_, rfl, rfl⟩⟩ rfl ?_ | refine t_fieldAddr_c fld34_0 rfl rfl ⟨_, rfl, .inl ⟨_, rfl, rfl⟩⟩ rfl rfl ?_
            first | refine t_load1 ty3 rfl rfl rfl ⟨_, rfl, .inl ⟨_, rfl, rfl⟩⟩ rfl ?_ | refine t_load1c ty3 rfl rfl ⟨_, rfl, .inl ⟨_, rfl, rfl⟩⟩ rfl ?_
            refine t_bin rfl rfl .neq ⟨_, rfl, .inl ⟨_, rfl, rfl⟩⟩ rfl ?_
            refine t_pick_t rfl rfl rfl ⟨_, rfl, .inl ⟨_, rfl, rfl⟩⟩ rfl ?_
            refine t_pick_f rfl rfl rfl rfl rfl ?_
            refine tr_nil ?_
            refine ac_bool (fun hb0 => ?_) (fun hb0 => ?_)
            · refine ac_cond rfl (fun _ => ?_) (fun hb => by cases hb)
              refine ac_ts mixed ?_
              refine t_assign rfl rfl rfl ?_
              refine t_assign rfl rfl rfl ?_
              refine tr_nil ?_
              refine ac_ret ?_
              refine ⟨.inr rfl, _, ⟨_, _, rfl, rfl, ⟨_, _, rfl, rfl, rfl⟩⟩, ?_, ?_⟩
              · have e : (Trm.mk k ix ty l).shape = false := by
                  rw [Bool.eq_false_iff]; intro h; rw [Trm.shape_iff] at h; obtain ⟨h1, h2, h3, h4, h5⟩ := h
                  first | (simp at h33; omega) | (simp_all [dTms_len]; done) | (simp_all [dTms_len]; omega)
                rw [e]
                (repeat' (first | exact VLe.rfl | exact VLes.rfl | exact VLes.nil | refine VLes.cons ?_ ?_ | refine VLe.agg ?_ | refine VLe.tup ?_ | exact VLe.own | exact VLe.full | exact VLe.nils | exact VLe.any | exact VLe.clo | exact VLe.fn | refine VLe.intE ?_ | refine VLe.boolE ?_ | refine VLe.sliceE ?_ | refine VLe.ownE ?_ | refine VLe.ownO ?_ | refine VLe.fullE ?_ | refine VLe.nilsE ?_))
              · (intro l o h; cases h)
            · refine ac_cond rfl (fun hb => by cases hb) (fun _ => ?_)
              refine ac_skip ?_
              show ∃ a, _ ∧ Weak _ _ _
              refine ⟨(), ?_, ?_⟩
              rotate_left
              · (refine weak_of ?_ ?_ rfl rfl rfl <;> (repeat' (first | exact trivial | refine ⟨⟨_, rfl, ?_⟩, ?_⟩ | exact OLe.rfl | refine OLe.cells ?_ | exact VLe.rfl | exact VLes.rfl | exact VLes.nil | refine VLes.cons ?_ ?_ | refine VLe.agg ?_ | refine VLe.tup ?_ | exact VLe.own | exact VLe.full | exact VLe.nils | exact VLe.any | exact VLe.clo | exact VLe.fn | refine VLe.intE ?_ | refine VLe.boolE ?_ | refine VLe.sliceE ?_ | refine VLe.ownE ?_ | refine VLe.ownO ?_ | refine VLe.fullE ?_ | refine VLe.nilsE ?_ | refine OLe.row ?_)))
              · cases ha : arity k with
                | none => simp_all
                | some n =>
                    have e : n = l.length := by simp [ha, dTms_len] at h28; omega
                    exact ⟨by rw [e], by simpa using h33, by first | (left; simpa using h37) | (right; simpa using hb0)⟩
          · refine t_skip ⟨_, rfl, .inl ⟨_, rfl, rfl⟩⟩ rfl ?_
            refine t_skip ⟨_, rfl, .inl ⟨_, rfl, rfl⟩⟩ rfl ?_
            refine t_skip ⟨_, rfl, .inl ⟨_, rfl, rfl⟩⟩ rfl ?_
            refine t_pick_f rfl rfl rfl ⟨_, rfl, .inl ⟨_, rfl, rfl⟩⟩ rfl ?_
            refine t_pick_f rfl rfl rfl rfl rfl ?_
            refine tr_nil ?_
            refine ac_cond rfl (fun hb => by cases hb) (fun hb => ?_)
            refine ac_skip ?_
            show ∃ a, _ ∧ Weak _ _ _
            refine ⟨(), ?_, ?_⟩
            rotate_left
            · (refine weak_of ?_ ?_ rfl rfl rfl <;> (repeat' (first | exact trivial | refine ⟨⟨_, rfl, ?_⟩, ?_⟩ | exact OLe.rfl | refine OLe.cells ?_ | exact VLe.rfl | exact VLes.rfl | exact VLes.nil | refine VLes.cons ?_ ?_ | refine VLe.agg ?_ | refine VLe.tup ?_ | exact VLe.own | exact VLe.full | exact VLe.nils | exact VLe.any | exact VLe.clo | exact VLe.fn | refine VLe.intE ?_ | refine VLe.boolE ?_ | refine VLe.sliceE ?_ | refine VLe.ownE ?_ | refine VLe.ownO ?_ | refine VLe.fullE ?_ | refine VLe.nilsE ?_ | refine OLe.row ?_)))
            · cases ha : arity k with
              | none => simp_all
              | some n =>
                  have e : n = l.length := by simp [ha, dTms_len] at h28; omega
                  exact ⟨by rw [e], by simpa using h33, by first | (left; simpa using h37) | (right; simpa using hb0)⟩
  · skip
    refine ac_join (fun (u : Unit) => ⟨[(1, .ptr 1 0)], [(1, some (.cells [.d (.int .i64 k), .d (.int .i64 ix), .d (.int .i64 ty.kind), .d (.slice (dTys ty.args)), .d (.slice (dTms l))] 34))], [1]⟩) (fun (u : Unit) => (if typed k then ty.okB else ty.none) = true) ?_ (fun u hj => ?_)
    · refine ac_ts mixed ?_
      first | refine t_fieldAddr fld34_0 rfl rfl rfl ?_ | refine t_fieldAddr_c fld34_0 rfl rfl rfl rfl rfl ?_
      first | refine t_load1 ty3 rfl rfl rfl rfl rfl ?_ | refine t_load1c ty3 rfl rfl rfl rfl ?_
      first | refine s_callF rfl .rfl (Typed_ev k) rfl rfl ?_ | refine s_callF rfl (by (repeat' (first | exact VLes.rfl | exact VLes.nil | exact VLe.rfl | refine VLes.cons ?_ ?_ | exact VLe.own | exact VLe.full | exact VLe.nils | refine VLe.agg ?_ | exact VLe.fullE (dTms_one _) | exact VLe.fullE (dTms_two _ _) | exact VLe.fullE (dTms_three _ _ _) | exact VLe.fullE (dTys_one _) | exact VLe.fullE (dTys_two _ _) | exact VLe.fullE (dTys_three _ _ _)))) (Typed_ev k) rfl rfl ?_
      refine tr_nil ?_
      refine ac_bool (fun hb1 => ?_) (fun hb1 => ?_)
      · refine ac_cond rfl (fun _ => ?_) (fun hb => by cases hb)
        refine ac_ts mixed ?_
        first | refine t_fieldAddr fld34_2 rfl rfl rfl ?_ | refine t_fieldAddr_c fld34_2 rfl rfl rfl rfl rfl ?_
        first | refine t_load ty30 rfl rfl rfl rfl rfl rfl ?_ | refine s_loadWc ty30 rfl rfl rfl rfl ?_ | refine t_loadN (us := [_, _]) ty30 rfl rfl rfl rfl rfl rfl ?_ | refine t_loadNc (us := [_, _]) ty30 rfl rfl rfl rfl rfl ?_
        first | refine s_callF rfl .rfl (CheckType_ev ty hty) rfl rfl ?_ | refine s_callF rfl (by (repeat' (first | exact VLes.rfl | exact VLes.nil | exact VLe.rfl | refine VLes.cons ?_ ?_ | exact VLe.own | exact VLe.full | exact VLe.nils | refine VLe.agg ?_ | exact VLe.fullE (dTms_one _) | exact VLe.fullE (dTms_two _ _) | exact VLe.fullE (dTms_three _ _ _) | exact VLe.fullE (dTys_one _) | exact VLe.fullE (dTys_two _ _) | exact VLe.fullE (dTys_three _ _ _)))) (CheckType_ev ty hty) rfl rfl ?_
        refine t_move rfl rfl rfl ?_
        refine t_extract rfl rfl rfl rfl ?_
        refine t_extract rfl rfl rfl rfl ?_
        refine t_assign rfl rfl rfl ?_
        refine t_assign rfl rfl rfl ?_
        refine tr_nil ?_
        refine ac_ts mixed ?_
        refine t_move rfl rfl rfl ?_
        refine t_bin rfl rfl .neq rfl rfl ?_
        refine tr_nil ?_
        refine ac_bool (fun hb2 => ?_) (fun hb2 => ?_)
        · refine ac_cond rfl (fun _ => ?_) (fun hb => by cases hb)
          refine ac_ts mixed ?_
          refine t_assign rfl rfl rfl ?_
          refine t_assign rfl rfl rfl ?_
          refine tr_nil ?_
          refine ac_ret ?_
          refine ⟨.inr rfl, _, ⟨_, _, rfl, rfl, ⟨_, _, rfl, rfl, rfl⟩⟩, ?_, ?_⟩
          · have e : (Trm.mk k ix ty l).shape = false := by
              rw [Bool.eq_false_iff]; intro h; rw [Trm.shape_iff] at h; obtain ⟨h1, h2, h3, h4, h5⟩ := h
              rw [hb1] at h4
              simp_all [← Typ.err_ok]
            rw [e]
            (repeat' (first | exact VLe.rfl | exact VLes.rfl | exact VLes.nil | refine VLes.cons ?_ ?_ | refine VLe.agg ?_ | refine VLe.tup ?_ | exact VLe.own | exact VLe.full | exact VLe.nils | exact VLe.any | exact VLe.clo | exact VLe.fn | refine VLe.intE ?_ | refine VLe.boolE ?_ | refine VLe.sliceE ?_ | refine VLe.ownE ?_ | refine VLe.ownO ?_ | refine VLe.fullE ?_ | refine VLe.nilsE ?_))
          · (intro l o h; cases h)
        · refine ac_cond rfl (fun hb => by cases hb) (fun _ => ?_)
          refine ac_skip ?_
          show ∃ a, _ ∧ Weak _ _ _
          refine ⟨(), ?_, ?_⟩
          rotate_left
          · (refine weak_of ?_ ?_ rfl rfl rfl <;> (repeat' (first | exact trivial | refine ⟨⟨_, rfl, ?_⟩, ?_⟩ | exact OLe.rfl | refine OLe.cells ?_ | exact VLe.rfl | exact VLes.rfl | exact VLes.nil | refine VLes.cons ?_ ?_ | refine VLe.agg ?_ | refine VLe.tup ?_ | exact VLe.own | exact VLe.full | exact VLe.nils | exact VLe.any | exact VLe.clo | exact VLe.fn | refine VLe.intE ?_ | refine VLe.boolE ?_ | refine VLe.sliceE ?_ | refine VLe.ownE ?_ | refine VLe.ownO ?_ | refine VLe.fullE ?_ | refine VLe.nilsE ?_ | refine OLe.row ?_)))
          · rw [hb1]; simp_all [← Typ.err_ok]
      · refine ac_cond rfl (fun hb => by cases hb) (fun _ => ?_)
        refine ac_ts mixed ?_
        first | refine t_fieldAddr fld34_2 rfl rfl rfl ?_ | refine t_fieldAddr_c fld34_2 rfl rfl rfl rfl rfl ?_
        first | refine t_load ty30 rfl rfl rfl rfl rfl rfl ?_ | refine s_loadWc ty30 rfl rfl rfl rfl ?_ | refine t_loadN (us := [_, _]) ty30 rfl rfl rfl rfl rfl rfl ?_ | refine t_loadNc (us := [_, _]) ty30 rfl rfl rfl rfl rfl ?_
        first | refine s_callF rfl .rfl (NoType_ev ty) rfl rfl ?_ | refine s_callF rfl (by (repeat' (first | exact VLes.rfl | exact VLes.nil | exact VLe.rfl | refine VLes.cons ?_ ?_ | exact VLe.own | exact VLe.full | exact VLe.nils | refine VLe.agg ?_ | exact VLe.fullE (dTms_one _) | exact VLe.fullE (dTms_two _ _) | exact VLe.fullE (dTms_three _ _ _) | exact VLe.fullE (dTys_one _) | exact VLe.fullE (dTys_two _ _) | exact VLe.fullE (dTys_three _ _ _)))) (NoType_ev ty) rfl rfl ?_
        refine t_not rfl rfl rfl ?_
        refine tr_nil ?_
        refine ac_bool (fun hb3 => ?_) (fun hb3 => ?_)
        · refine ac_cond rfl (fun _ => ?_) (fun hb => by cases hb)
          refine ac_ts mixed ?_
          refine t_assign rfl rfl rfl ?_
          refine t_assign rfl rfl rfl ?_
          refine tr_nil ?_
          refine ac_ret ?_
          refine ⟨.inr rfl, _, ⟨_, _, rfl, rfl, ⟨_, _, rfl, rfl, rfl⟩⟩, ?_, ?_⟩
          · have e : (Trm.mk k ix ty l).shape = false := by
              rw [Bool.eq_false_iff]; intro h; rw [Trm.shape_iff] at h; obtain ⟨h1, h2, h3, h4, h5⟩ := h
              rw [hb1] at h4
              simp_all [← Typ.err_ok]
            rw [e]
            (repeat' (first | exact VLe.rfl | exact VLes.rfl | exact VLes.nil | refine VLes.cons ?_ ?_ | refine VLe.agg ?_ | refine VLe.tup ?_ | exact VLe.own | exact VLe.full | exact VLe.nils | exact VLe.any | exact VLe.clo | exact VLe.fn | refine VLe.intE ?_ | refine VLe.boolE ?_ | refine VLe.sliceE ?_ | refine VLe.ownE ?_ | refine VLe.ownO ?_ | refine VLe.fullE ?_ | refine VLe.nilsE ?_))
          · (intro l o h; cases h)
        · refine ac_cond rfl (fun hb => by cases hb) (fun _ => ?_)
          refine ac_skip ?_
          show ∃ a, _ ∧ Weak _ _ _
          refine ⟨(), ?_, ?_⟩
          rotate_left
          · (refine weak_of ?_ ?_ rfl rfl rfl <;> (repeat' (first | exact trivial | refine ⟨⟨_, rfl, ?_⟩, ?_⟩ | exact OLe.rfl | refine OLe.cells ?_ | exact VLe.rfl | exact VLes.rfl | exact VLes.nil | refine VLes.cons ?_ ?_ | refine VLe.agg ?_ | refine VLe.tup ?_ | exact VLe.own | exact VLe.full | exact VLe.nils | exact VLe.any | exact VLe.clo | exact VLe.fn | refine VLe.intE ?_ | refine VLe.boolE ?_ | refine VLe.sliceE ?_ | refine VLe.ownE ?_ | refine VLe.ownO ?_ | refine VLe.fullE ?_ | refine VLe.nilsE ?_ | refine OLe.row ?_)))
          · rw [hb1]; simp_all [← Typ.err_ok]
    · rename_i hj0
      refine ac_ts mixed ?_
      refine t_assign rfl rfl rfl ?_
      refine tr_nil ?_
      refine ac_seq ?_
      refine ac_ts mixed ?_
      first | refine t_fieldAddr fld34_3 rfl rfl rfl ?_ | refine t_fieldAddr_c fld34_3 rfl rfl rfl rfl rfl ?_
      first | refine t_load1 ty32 rfl rfl rfl rfl rfl ?_ | refine t_load1c ty32 rfl rfl rfl rfl ?_
      refine t_len rfl sli32 rfl (by constructor) rfl rfl ?_
      refine t_move rfl rfl rfl ?_
      refine tr_nil ?_
      refine ac_range mixed ((dTms l).length) (fun i => [(8, .d (.int .i64 ((1 + szTms (l.take i) : Nat) : Int))), (59, .d (.slice (dTms l)))]) (fun i => []) (fun i => []) (fun i => ∀ (j : Nat) a, j < i → l[j]? = some a → a.shape = true) (by simp) ?_ (by first | omega | (simp only [dTys_len, dTms_len, dInts_len, List.length_append, List.length_cons, List.length_nil, List.length_take]; omega)) rfl (fun i => ⟨rfl, rfl⟩) (fun i hi hI => ?_) (fun hI => ?_)
      · (refine weak_of ?_ ?_ rfl rfl rfl <;> (repeat' (first | exact trivial | refine ⟨⟨_, rfl, ?_⟩, ?_⟩ | exact OLe.rfl | refine OLe.cells ?_ | exact VLe.rfl | exact VLes.rfl | exact VLes.nil | refine VLes.cons ?_ ?_ | refine VLe.agg ?_ | refine VLe.tup ?_ | exact VLe.own | exact VLe.full | exact VLe.nils | exact VLe.any | exact VLe.clo | exact VLe.fn | refine VLe.intE ?_ | refine VLe.boolE ?_ | refine VLe.sliceE ?_ | refine VLe.ownE ?_ | refine VLe.ownO ?_ | refine VLe.fullE ?_ | refine VLe.nilsE ?_ | refine OLe.row ?_)))
      · rw [dTms_len] at hi
        have hg : l[i]? = some l[i] := List.getElem?_eq_getElem hi
        have hget := dTms_get hg
        have hm := List.getElem_mem hi
        have hsz := bigTms_mem hm
        have hsz2 := l[i].sz_le_big
        refine ac_ts mixed ?_
        refine t_indexAddr sli32 rfl (by constructor) rfl (Int.natCast_nonneg _) hget rfl rfl rfl ?_
        first | refine t_load ty34 rfl rfl rfl rfl rfl rfl ?_ | refine s_loadWc ty34 rfl rfl rfl rfl ?_ | refine t_loadN (us := [_, _, _, _, _]) ty34 rfl rfl rfl rfl rfl rfl ?_ | refine t_loadNc (us := [_, _, _, _, _]) ty34 rfl rfl rfl rfl rfl ?_
        refine s_alloc 10 zer34 rfl rfl rfl rfl ?_
        first | refine s_storeW ty34 rfl rfl rfl rfl rfl rfl rfl ?_ | refine s_store (ws := [_, _, _, _, _]) ty34 rfl rfl rfl rfl rfl rfl rfl rfl ?_
        refine tr_nil ?_
        refine ac_ts mixed ?_
        first | refine t_load ty34 rfl rfl rfl rfl rfl rfl ?_ | refine s_loadWc ty34 rfl rfl rfl rfl ?_ | refine t_loadN (us := [_, _, _, _, _]) ty34 rfl rfl rfl rfl rfl rfl ?_ | refine t_loadNc (us := [_, _, _, _, _]) ty34 rfl rfl rfl rfl rfl ?_
        first | refine s_callF rfl .rfl (ih _ hm (by omega)) rfl rfl ?_ | refine s_callF rfl (by (repeat' (first | exact VLes.rfl | exact VLes.nil | exact VLe.rfl | refine VLes.cons ?_ ?_ | exact VLe.own | exact VLe.full | exact VLe.nils | refine VLe.agg ?_ | exact VLe.fullE (dTms_one _) | exact VLe.fullE (dTms_two _ _) | exact VLe.fullE (dTms_three _ _ _) | exact VLe.fullE (dTys_one _) | exact VLe.fullE (dTys_two _ _) | exact VLe.fullE (dTys_three _ _ _)))) (ih _ hm (by omega)) rfl rfl ?_
        refine t_move rfl rfl rfl ?_
        refine t_extract rfl rfl rfl rfl ?_
        refine t_extract rfl rfl rfl rfl ?_
        refine t_assign rfl rfl rfl ?_
        refine t_assign rfl rfl rfl ?_
        refine tr_nil ?_
        refine ac_seq ?_
        refine ac_ts mixed ?_
        refine t_move rfl rfl rfl ?_
        refine t_not rfl rfl rfl ?_
        refine tr_nil ?_
        refine ac_bool (fun hb5 => ?_) (fun hb5 => ?_)
        · refine ac_cond rfl (fun _ => ?_) (fun hb => by cases hb)
          refine ac_ts mixed ?_
          refine t_assign rfl rfl rfl ?_
          refine t_assign rfl rfl rfl ?_
          refine tr_nil ?_
          refine ac_ret ?_
          refine ⟨.inr rfl, _, ⟨_, _, rfl, rfl, ⟨_, _, rfl, rfl, rfl⟩⟩, ?_, ?_⟩
          · have e : (Trm.mk k ix ty l).shape = false := by
              rw [Bool.eq_false_iff]; intro h; rw [Trm.shape_iff] at h; obtain ⟨h1, h2, h3, h4, h5⟩ := h
              simp [h5 _ hm] at hb5
            rw [e]
            (repeat' (first | exact VLe.rfl | exact VLes.rfl | exact VLes.nil | refine VLes.cons ?_ ?_ | refine VLe.agg ?_ | refine VLe.tup ?_ | exact VLe.own | exact VLe.full | exact VLe.nils | exact VLe.any | exact VLe.clo | exact VLe.fn | refine VLe.intE ?_ | refine VLe.boolE ?_ | refine VLe.sliceE ?_ | refine VLe.ownE ?_ | refine VLe.ownO ?_ | refine VLe.fullE ?_ | refine VLe.nilsE ?_))
          · (intro l o h; cases h)
        · refine ac_cond rfl (fun hb => by cases hb) (fun _ => ?_)
          refine ac_skip ?_
          change AC _ _ _ _ _
          refine ac_t mixed ?_
          refine t_move rfl rfl rfl ?_
          refine t_move rfl rfl rfl ?_
          refine t_bin rfl rfl .add rfl rfl ?_
          refine t_assign rfl rfl rfl ?_
          refine tr_nil ?_
          show _ ∧ Weak _ _ _
          refine ⟨fun j a hj ha => by
             by_cases e : j = i
             · subst e; rw [hg] at ha; injection ha with ha; subst ha; simpa using hb5
             · exact hI j a (by omega) ha, ?_⟩
          have e1 : l[i].shape = true := by simpa using hb5
          have e2 := szTms_take_le l (i + 1)
          have e3 := szTms_le_big l (fun a _ => a.sz_le_big)
          rw [szTms_take_succ hg] at e2
          rw [szTms_take_succ hg, e1]
          (refine weak_of ?_ ?_ rfl rfl rfl <;> (repeat' (first | exact trivial | refine ⟨⟨_, rfl, ?_⟩, ?_⟩ | exact OLe.rfl | refine OLe.cells ?_ | exact VLe.rfl | exact VLes.rfl | exact VLes.nil | refine VLes.cons ?_ ?_ | refine VLe.agg ?_ | refine VLe.tup ?_ | exact VLe.own | exact VLe.full | exact VLe.nils | exact VLe.any | exact VLe.clo | exact VLe.fn | refine VLe.intE ?_ | refine VLe.boolE ?_ | refine VLe.sliceE ?_ | refine VLe.ownE ?_ | refine VLe.ownO ?_ | refine VLe.fullE ?_ | refine VLe.nilsE ?_ | refine OLe.row ?_)))
          rw [if_pos rfl, i64_id (by omega) (by omega)]; omega
      · skip
        change AC _ _ _ _ _
        refine ac_ts mixed ?_
        refine t_move rfl rfl rfl ?_
        refine t_assign rfl rfl rfl ?_
        refine t_assign rfl rfl rfl ?_
        refine tr_nil ?_
        refine ac_ret ?_
        refine ⟨.inr rfl, _, ⟨_, _, rfl, rfl, ⟨_, _, rfl, rfl, rfl⟩⟩, ?_, ?_⟩
        · have e1 : (Trm.mk k ix ty l).shape = true := by
            rw [Trm.shape_iff]
            refine ⟨hj0.1, hj0.2.1, hj0.2.2, hj, fun a ha => ?_⟩
            obtain ⟨j, h1, h2⟩ := List.getElem_of_mem ha
            exact hI j a (by rw [dTms_len]; omega) (by rw [List.getElem?_eq_getElem h1, h2])
          rw [e1]
          (repeat' (first | exact VLe.rfl | exact VLes.rfl | exact VLes.nil | refine VLes.cons ?_ ?_ | refine VLe.agg ?_ | refine VLe.tup ?_ | exact VLe.own | exact VLe.full | exact VLe.nils | exact VLe.any | exact VLe.clo | exact VLe.fn | refine VLe.intE ?_ | refine VLe.boolE ?_ | refine VLe.sliceE ?_ | refine VLe.ownE ?_ | refine VLe.ownO ?_ | refine VLe.fullE ?_ | refine VLe.nilsE ?_))
          rw [if_pos rfl, dTms_len, List.take_length]; simp [Trm.sz]
        · (intro l o h; cases h)
theorem CheckTerm_ev (t : Trm) (ht : t.big ≤ 1000000) : Ev Tryd.prog GL 55 [vTm t] [] (.tup [.d (.int .i64 (if t.err == 0 then (t.sz : Int) else 0)), .d (.int .i64 t.err)]) [] := by
  -- live at block 0: t4
  -- live at cond 0: t4
  -- live at cond 1: t4
  refine ev_of_body (N := 18) (ks := []) (ρ0 := [(0, _)]) (σ0 := []) (rs := [.tmp 2, .tmp 3]) Tryd.func55 rfl (by kernel_rfl) rfl rfl rfl rfl rfl rfl rfl rfl rfl rfl (fun E ι0 => ?_)
  refine ac_ts mixed ?_
  refine s_box 1 rfl rfl rfl rfl rfl ?_
  refine t_assign rfl rfl rfl ?_
  refine t_assign rfl rfl rfl ?_
  refine tr_nil ?_
  refine ac_ts mixed ?_
  first | refine t_load ty34 rfl rfl rfl rfl rfl rfl ?_ | refine s_loadWc ty34 rfl rfl rfl rfl ?_ | refine t_loadN (us := [_, _, _, _, _]) ty34 rfl rfl rfl rfl rfl rfl ?_ | refine t_loadNc (us := [_, _, _, _, _]) ty34 rfl rfl rfl rfl rfl ?_
  first | refine s_callF rfl .rfl (termNodes_ev t ht) rfl rfl ?_ | refine s_callF rfl (by (repeat' (first | exact VLes.rfl | exact VLes.nil | exact VLe.rfl | refine VLes.cons ?_ ?_ | exact VLe.own | exact VLe.full | exact VLe.nils | refine VLe.agg ?_ | exact VLe.fullE (dTms_one _) | exact VLe.fullE (dTms_two _ _) | exact VLe.fullE (dTms_three _ _ _) | exact VLe.fullE (dTys_one _) | exact VLe.fullE (dTys_two _ _) | exact VLe.fullE (dTys_three _ _ _)))) (termNodes_ev t ht) rfl rfl ?_
  refine t_move rfl rfl rfl ?_
  refine t_extract rfl rfl rfl rfl ?_
  refine t_extract rfl rfl rfl rfl ?_
  refine t_assign rfl rfl rfl ?_
  refine t_assign rfl rfl rfl ?_
  refine tr_nil ?_
  refine ac_seq ?_
  refine ac_block ?_
  refine ac_ts mixed ?_
  refine t_move rfl rfl rfl ?_
  refine t_not rfl rfl rfl ?_
  refine t_assign rfl rfl rfl ?_
  refine tr_nil ?_
  refine ac_bool (fun hb0 => ?_) (fun hb0 => ?_)
  · refine ac_cond rfl (fun _ => ?_) (fun hb => by cases hb)
    refine ac_ts mixed ?_
    refine t_assign rfl rfl rfl ?_
    refine t_assign rfl rfl rfl ?_
    refine tr_nil ?_
    refine ac_ret ?_
    refine ⟨.inr rfl, _, ⟨_, _, rfl, rfl, ⟨_, _, rfl, rfl, rfl⟩⟩, ?_, ?_⟩
    · have e : t.err = 2 := by simp_all [Trm.err]
      rw [e]
      (repeat' (first | exact VLe.rfl | exact VLes.rfl | exact VLes.nil | refine VLes.cons ?_ ?_ | refine VLe.agg ?_ | refine VLe.tup ?_ | exact VLe.own | exact VLe.full | exact VLe.nils | exact VLe.any | exact VLe.clo | exact VLe.fn | refine VLe.intE ?_ | refine VLe.boolE ?_ | refine VLe.sliceE ?_ | refine VLe.ownE ?_ | refine VLe.ownO ?_ | refine VLe.fullE ?_ | refine VLe.nilsE ?_))
    · (intro l o h; cases h)
  · refine ac_cond rfl (fun hb => by cases hb) (fun _ => ?_)
    refine ac_ts mixed ?_
    refine t_move rfl rfl rfl ?_
    refine t_bin rfl rfl .gtr rfl rfl ?_
    refine t_assign rfl rfl rfl ?_
    refine tr_nil ?_
    refine ac_bool (fun hb1 => ?_) (fun hb1 => ?_)
    · refine ac_cond rfl (fun _ => ?_) (fun hb => by cases hb)
      refine ac_ts mixed ?_
      refine t_assign rfl rfl rfl ?_
      refine t_assign rfl rfl rfl ?_
      refine tr_nil ?_
      refine ac_ret ?_
      refine ⟨.inr rfl, _, ⟨_, _, rfl, rfl, ⟨_, _, rfl, rfl, rfl⟩⟩, ?_, ?_⟩
      · have e : t.err = 4 := by simp_all [Trm.err]; omega
        rw [e]
        (repeat' (first | exact VLe.rfl | exact VLes.rfl | exact VLes.nil | refine VLes.cons ?_ ?_ | refine VLe.agg ?_ | refine VLe.tup ?_ | exact VLe.own | exact VLe.full | exact VLe.nils | exact VLe.any | exact VLe.clo | exact VLe.fn | refine VLe.intE ?_ | refine VLe.boolE ?_ | refine VLe.sliceE ?_ | refine VLe.ownE ?_ | refine VLe.ownO ?_ | refine VLe.fullE ?_ | refine VLe.nilsE ?_))
      · (intro l o h; cases h)
    · refine ac_cond rfl (fun hb => by cases hb) (fun _ => ?_)
      refine ac_skip ?_
      change AC _ _ _ _ _
      refine ac_ts mixed ?_
      refine t_move rfl rfl rfl ?_
      refine t_assign rfl rfl rfl ?_
      refine t_assign rfl rfl rfl ?_
      refine tr_nil ?_
      refine ac_ret ?_
      refine ⟨.inr rfl, _, ⟨_, _, rfl, rfl, ⟨_, _, rfl, rfl, rfl⟩⟩, ?_, ?_⟩
      · have e : t.err = 0 := by simp_all [Trm.err]; omega
        rw [e]
        (repeat' (first | exact VLe.rfl | exact VLes.rfl | exact VLes.nil | refine VLes.cons ?_ ?_ | refine VLe.agg ?_ | refine VLe.tup ?_ | exact VLe.own | exact VLe.full | exact VLe.nils | exact VLe.any | exact VLe.clo | exact VLe.fn | refine VLe.intE ?_ | refine VLe.boolE ?_ | refine VLe.sliceE ?_ | refine VLe.ownE ?_ | refine VLe.ownO ?_ | refine VLe.fullE ?_ | refine VLe.nilsE ?_))
        simp_all
      · (intro l o h; cases h)
end Go.AM

/-
  The walk of SubstTypes.
-/
import Derived.Test.YtdbgmmeenljnoaaDoorAmP7
set_option linter.unusedVariables false
set_option linter.unusedSimpArgs false
set_option maxRecDepth 20000
namespace Go.AM
open Go Go.RowKit Go.Proofs
theorem sane_ev : Ev Tryd.prog GL 6 [] [] (.d (.bool true)) [] := by
  refine ev_of_body (N := 43) (ks := []) (ρ0 := []) (σ0 := []) (rs := [.tmp 0]) Tryd.func6 rfl (by kernel_rfl) rfl rfl rfl rfl rfl rfl rfl rfl rfl rfl (fun E ι0 => ?_)
  refine ac_ts mixed ?_
  refine t_assign rfl rfl rfl ?_
  refine tr_nil ?_
  refine ac_ts mixed ?_
  first | refine s_callF rfl .rfl (r2_Var_ev _) rfl rfl ?_ | refine s_callF rfl (by (repeat' (first | exact VLes.rfl | exact VLes.nil | exact VLe.rfl | refine VLes.cons ?_ ?_ | exact VLe.own | exact VLe.full | exact VLe.nils | refine VLe.agg ?_ | exact VLe.fullE (dTms_one _) | exact VLe.fullE (dTms_two _ _) | exact VLe.fullE (dTms_three _ _ _) | exact VLe.fullE (dTys_one _) | exact VLe.fullE (dTys_two _ _) | exact VLe.fullE (dTys_three _ _ _)))) (r2_Var_ev _) rfl rfl ?_
  first | refine t_buildSlice sli32 (Opds.ofL rfl) (.cons (.agg .rfl) .nil) (by intro x hx; simp only [List.mem_cons, List.not_mem_nil, or_false] at hx; rcases hx with rfl <;> rfl) rfl rfl rfl rfl ?_ | refine t_buildSlice sli32 (Opds.ofL rfl) (Elems.ofL rfl) (by intro x hx; simp only [List.mem_cons, List.not_mem_nil, or_false] at hx; rcases hx with rfl <;> rfl) rfl rfl rfl rfl ?_
  first | refine s_callF rfl .rfl (N_ev 5 [vr 0] (by decide)) rfl rfl ?_ | refine s_callF rfl (by (repeat' (first | exact VLes.rfl | exact VLes.nil | exact VLe.rfl | refine VLes.cons ?_ ?_ | exact VLe.own | exact VLe.full | exact VLe.nils | refine VLe.agg ?_ | exact VLe.fullE (dTms_one _) | exact VLe.fullE (dTms_two _ _) | exact VLe.fullE (dTms_three _ _ _) | exact VLe.fullE (dTys_one _) | exact VLe.fullE (dTys_two _ _) | exact VLe.fullE (dTys_three _ _ _)))) (N_ev 5 [vr 0] (by decide)) rfl rfl ?_
  first | refine s_callF rfl .rfl (N_ev 4 [] (by decide)) rfl rfl ?_ | refine s_callF rfl (by (repeat' (first | exact VLes.rfl | exact VLes.nil | exact VLe.rfl | refine VLes.cons ?_ ?_ | exact VLe.own | exact VLe.full | exact VLe.nils | refine VLe.agg ?_ | exact VLe.fullE (dTms_one _) | exact VLe.fullE (dTms_two _ _) | exact VLe.fullE (dTms_three _ _ _) | exact VLe.fullE (dTys_one _) | exact VLe.fullE (dTys_two _ _) | exact VLe.fullE (dTys_three _ _ _)))) (N_ev 4 [] (by decide)) rfl rfl ?_
  first | refine s_callF rfl .rfl (subst_Put_ev (tm 5 [vr 0]) (by decide) 0 (tm 4 []) (by decide)) rfl rfl ?_ | refine s_callF rfl (by (repeat' (first | exact VLes.rfl | exact VLes.nil | exact VLe.rfl | refine VLes.cons ?_ ?_ | exact VLe.own | exact VLe.full | exact VLe.nils | refine VLe.agg ?_ | exact VLe.fullE (dTms_one _) | exact VLe.fullE (dTms_two _ _) | exact VLe.fullE (dTms_three _ _ _) | exact VLe.fullE (dTys_one _) | exact VLe.fullE (dTys_two _ _) | exact VLe.fullE (dTys_three _ _ _)))) (subst_Put_ev (tm 5 [vr 0]) (by decide) 0 (tm 4 []) (by decide)) rfl rfl ?_
  refine t_move rfl rfl rfl ?_
  refine t_extract rfl rfl rfl rfl ?_
  refine t_extract rfl rfl rfl rfl ?_
  refine s_alloc 1 zer34 rfl rfl rfl rfl ?_
  first | refine s_storeW ty34 rfl rfl rfl rfl rfl rfl rfl ?_ | refine s_store (ws := [_, _, _, _, _]) ty34 rfl rfl rfl rfl rfl rfl rfl rfl ?_
  refine t_assign rfl rfl rfl ?_
  refine tr_nil ?_
  refine ac_ts mixed ?_
  first | refine s_callF rfl .rfl (r1_Nat_ev) rfl rfl ?_ | refine s_callF rfl (by (repeat' (first | exact VLes.rfl | exact VLes.nil | exact VLe.rfl | refine VLes.cons ?_ ?_ | exact VLe.own | exact VLe.full | exact VLe.nils | refine VLe.agg ?_ | exact VLe.fullE (dTms_one _) | exact VLe.fullE (dTms_two _ _) | exact VLe.fullE (dTms_three _ _ _) | exact VLe.fullE (dTys_one _) | exact VLe.fullE (dTys_two _ _) | exact VLe.fullE (dTys_three _ _ _)))) (r1_Nat_ev) rfl rfl ?_
  first | refine s_callF rfl .rfl (r2_Var_ev _) rfl rfl ?_ | refine s_callF rfl (by (repeat' (first | exact VLes.rfl | exact VLes.nil | exact VLe.rfl | refine VLes.cons ?_ ?_ | exact VLe.own | exact VLe.full | exact VLe.nils | refine VLe.agg ?_ | exact VLe.fullE (dTms_one _) | exact VLe.fullE (dTms_two _ _) | exact VLe.fullE (dTms_three _ _ _) | exact VLe.fullE (dTys_one _) | exact VLe.fullE (dTys_two _ _) | exact VLe.fullE (dTys_three _ _ _)))) (r2_Var_ev _) rfl rfl ?_
  first | refine t_buildSlice sli32 (Opds.ofL rfl) (.cons (.agg .rfl) .nil) (by intro x hx; simp only [List.mem_cons, List.not_mem_nil, or_false] at hx; rcases hx with rfl <;> rfl) rfl rfl rfl rfl ?_ | refine t_buildSlice sli32 (Opds.ofL rfl) (Elems.ofL rfl) (by intro x hx; simp only [List.mem_cons, List.not_mem_nil, or_false] at hx; rcases hx with rfl <;> rfl) rfl rfl rfl rfl ?_
  first | refine s_callF rfl .rfl (T_ev 2 .nat (by decide) [vr 1] (by decide)) rfl rfl ?_ | refine s_callF rfl (by (repeat' (first | exact VLes.rfl | exact VLes.nil | exact VLe.rfl | refine VLes.cons ?_ ?_ | exact VLe.own | exact VLe.full | exact VLe.nils | refine VLe.agg ?_ | exact VLe.fullE (dTms_one _) | exact VLe.fullE (dTms_two _ _) | exact VLe.fullE (dTms_three _ _ _) | exact VLe.fullE (dTys_one _) | exact VLe.fullE (dTys_two _ _) | exact VLe.fullE (dTys_three _ _ _)))) (T_ev 2 .nat (by decide) [vr 1] (by decide)) rfl rfl ?_
  first | refine s_callF rfl .rfl (r2_Var_ev _) rfl rfl ?_ | refine s_callF rfl (by (repeat' (first | exact VLes.rfl | exact VLes.nil | exact VLe.rfl | refine VLes.cons ?_ ?_ | exact VLe.own | exact VLe.full | exact VLe.nils | refine VLe.agg ?_ | exact VLe.fullE (dTms_one _) | exact VLe.fullE (dTms_two _ _) | exact VLe.fullE (dTms_three _ _ _) | exact VLe.fullE (dTys_one _) | exact VLe.fullE (dTys_two _ _) | exact VLe.fullE (dTys_three _ _ _)))) (r2_Var_ev _) rfl rfl ?_
  first | refine s_callF rfl .rfl (subst_Put_ev (.mk 2 0 .nat [vr 1]) (by decide) 0 (vr 3) (by decide)) rfl rfl ?_ | refine s_callF rfl (by (repeat' (first | exact VLes.rfl | exact VLes.nil | exact VLe.rfl | refine VLes.cons ?_ ?_ | exact VLe.own | exact VLe.full | exact VLe.nils | refine VLe.agg ?_ | exact VLe.fullE (dTms_one _) | exact VLe.fullE (dTms_two _ _) | exact VLe.fullE (dTms_three _ _ _) | exact VLe.fullE (dTys_one _) | exact VLe.fullE (dTys_two _ _) | exact VLe.fullE (dTys_three _ _ _)))) (subst_Put_ev (.mk 2 0 .nat [vr 1]) (by decide) 0 (vr 3) (by decide)) rfl rfl ?_
  refine t_move rfl rfl rfl ?_
  refine t_extract rfl rfl rfl rfl ?_
  refine t_extract rfl rfl rfl rfl ?_
  refine s_alloc 3 zer34 rfl rfl rfl rfl ?_
  first | refine s_storeW ty34 rfl rfl rfl rfl rfl rfl rfl ?_ | refine s_store (ws := [_, _, _, _, _]) ty34 rfl rfl rfl rfl rfl rfl rfl rfl ?_
  refine t_assign rfl rfl rfl ?_
  refine tr_nil ?_
  refine ac_ds mixed ?_
  refine t_move rfl rfl rfl ?_
  refine t_bin rfl rfl .eql rfl rfl ?_
  refine t_move rfl rfl rfl ?_
  refine tr_known (e' := true) (by decide) ?_
  refine t_move rfl ⟨_, rfl, .inl ⟨_, rfl, rfl⟩⟩ rfl ?_
  refine t_bin rfl rfl .eql ⟨_, rfl, .inl ⟨_, rfl, rfl⟩⟩ rfl ?_
  refine t_pick_t rfl rfl rfl rfl rfl ?_
  refine t_move rfl rfl rfl ?_
  refine tr_known (e' := true) (by decide) ?_
  first | refine t_load ty34 rfl rfl rfl rfl ⟨_, rfl, .inl ⟨_, rfl, rfl⟩⟩ rfl ?_ | refine s_loadWc ty34 rfl rfl ⟨_, rfl, .inl ⟨_, rfl, rfl⟩⟩ rfl ?_ | refine t_loadN (us := [_, _, _, _, _]) ty34 rfl rfl rfl rfl ⟨_, rfl, .inl ⟨_, rfl, rfl⟩⟩ rfl ?_ | refine t_loadNc (us := [_, _, _, _, _]) ty34 rfl rfl rfl ⟨_, rfl, .inl ⟨_, rfl, rfl⟩⟩ rfl ?_
  first | refine s_callF rfl .rfl (N_ev 4 [] (by decide)) ⟨_, rfl, .inl ⟨_, rfl, rfl⟩⟩ rfl ?_ | refine s_callF rfl (by (repeat' (first | exact VLes.rfl | exact VLes.nil | exact VLe.rfl | refine VLes.cons ?_ ?_ | exact VLe.own | exact VLe.full | exact VLe.nils | refine VLe.agg ?_ | exact VLe.fullE (dTms_one _) | exact VLe.fullE (dTms_two _ _) | exact VLe.fullE (dTms_three _ _ _) | exact VLe.fullE (dTys_one _) | exact VLe.fullE (dTys_two _ _) | exact VLe.fullE (dTys_three _ _ _)))) (N_ev 4 [] (by decide)) ⟨_, rfl, .inl ⟨_, rfl, rfl⟩⟩ rfl ?_
  first | refine t_buildSlice sli32 (Opds.ofL rfl) (.cons (.agg .rfl) .nil) (by intro x hx; simp only [List.mem_cons, List.not_mem_nil, or_false] at hx; rcases hx with rfl <;> rfl) rfl rfl ⟨_, rfl, .inl ⟨_, rfl, rfl⟩⟩ rfl ?_ | refine t_buildSlice sli32 (Opds.ofL rfl) (Elems.ofL rfl) (by intro x hx; simp only [List.mem_cons, List.not_mem_nil, or_false] at hx; rcases hx with rfl <;> rfl) rfl rfl ⟨_, rfl, .inl ⟨_, rfl, rfl⟩⟩ rfl ?_
  first | refine s_callF rfl .rfl (N_ev 5 [tm 4 []] (by decide)) ⟨_, rfl, .inl ⟨_, rfl, rfl⟩⟩ rfl ?_ | refine s_callF rfl (by (repeat' (first | exact VLes.rfl | exact VLes.nil | exact VLe.rfl | refine VLes.cons ?_ ?_ | exact VLe.own | exact VLe.full | exact VLe.nils | refine VLe.agg ?_ | exact VLe.fullE (dTms_one _) | exact VLe.fullE (dTms_two _ _) | exact VLe.fullE (dTms_three _ _ _) | exact VLe.fullE (dTys_one _) | exact VLe.fullE (dTys_two _ _) | exact VLe.fullE (dTys_three _ _ _)))) (N_ev 5 [tm 4 []] (by decide)) ⟨_, rfl, .inl ⟨_, rfl, rfl⟩⟩ rfl ?_
  first | refine s_callF rfl .rfl (r2_Same_ev _ (by decide) _) ⟨_, rfl, .inl ⟨_, rfl, rfl⟩⟩ rfl ?_ | refine s_callF rfl (by (repeat' (first | exact VLes.rfl | exact VLes.nil | exact VLe.rfl | refine VLes.cons ?_ ?_ | exact VLe.own | exact VLe.full | exact VLe.nils | refine VLe.agg ?_ | exact VLe.fullE (dTms_one _) | exact VLe.fullE (dTms_two _ _) | exact VLe.fullE (dTms_three _ _ _) | exact VLe.fullE (dTys_one _) | exact VLe.fullE (dTys_two _ _) | exact VLe.fullE (dTys_three _ _ _)))) (r2_Same_ev _ (by decide) _) ⟨_, rfl, .inl ⟨_, rfl, rfl⟩⟩ rfl ?_
  refine t_pick_t rfl rfl rfl rfl rfl ?_
  refine t_move rfl rfl rfl ?_
  refine tr_known (e' := true) (by decide) ?_
  first | refine t_load ty34 rfl rfl rfl rfl ⟨_, rfl, .inl ⟨_, rfl, rfl⟩⟩ rfl ?_ | refine s_loadWc ty34 rfl rfl ⟨_, rfl, .inl ⟨_, rfl, rfl⟩⟩ rfl ?_ | refine t_loadN (us := [_, _, _, _, _]) ty34 rfl rfl rfl rfl ⟨_, rfl, .inl ⟨_, rfl, rfl⟩⟩ rfl ?_ | refine t_loadNc (us := [_, _, _, _, _]) ty34 rfl rfl rfl ⟨_, rfl, .inl ⟨_, rfl, rfl⟩⟩ rfl ?_
  first | refine s_callF rfl .rfl (r1_Nat_ev) ⟨_, rfl, .inl ⟨_, rfl, rfl⟩⟩ rfl ?_ | refine s_callF rfl (by (repeat' (first | exact VLes.rfl | exact VLes.nil | exact VLe.rfl | refine VLes.cons ?_ ?_ | exact VLe.own | exact VLe.full | exact VLe.nils | refine VLe.agg ?_ | exact VLe.fullE (dTms_one _) | exact VLe.fullE (dTms_two _ _) | exact VLe.fullE (dTms_three _ _ _) | exact VLe.fullE (dTys_one _) | exact VLe.fullE (dTys_two _ _) | exact VLe.fullE (dTys_three _ _ _)))) (r1_Nat_ev) ⟨_, rfl, .inl ⟨_, rfl, rfl⟩⟩ rfl ?_
  first | refine s_callF rfl .rfl (r2_Var_ev _) ⟨_, rfl, .inl ⟨_, rfl, rfl⟩⟩ rfl ?_ | refine s_callF rfl (by (repeat' (first | exact VLes.rfl | exact VLes.nil | exact VLe.rfl | refine VLes.cons ?_ ?_ | exact VLe.own | exact VLe.full | exact VLe.nils | refine VLe.agg ?_ | exact VLe.fullE (dTms_one _) | exact VLe.fullE (dTms_two _ _) | exact VLe.fullE (dTms_three _ _ _) | exact VLe.fullE (dTys_one _) | exact VLe.fullE (dTys_two _ _) | exact VLe.fullE (dTys_three _ _ _)))) (r2_Var_ev _) ⟨_, rfl, .inl ⟨_, rfl, rfl⟩⟩ rfl ?_
  first | refine t_buildSlice sli32 (Opds.ofL rfl) (.cons (.agg .rfl) .nil) (by intro x hx; simp only [List.mem_cons, List.not_mem_nil, or_false] at hx; rcases hx with rfl <;> rfl) rfl rfl ⟨_, rfl, .inl ⟨_, rfl, rfl⟩⟩ rfl ?_ | refine t_buildSlice sli32 (Opds.ofL rfl) (Elems.ofL rfl) (by intro x hx; simp only [List.mem_cons, List.not_mem_nil, or_false] at hx; rcases hx with rfl <;> rfl) rfl rfl ⟨_, rfl, .inl ⟨_, rfl, rfl⟩⟩ rfl ?_
  first | refine s_callF rfl .rfl (T_ev 2 .nat (by decide) [vr 4] (by decide)) ⟨_, rfl, .inl ⟨_, rfl, rfl⟩⟩ rfl ?_ | refine s_callF rfl (by (repeat' (first | exact VLes.rfl | exact VLes.nil | exact VLe.rfl | refine VLes.cons ?_ ?_ | exact VLe.own | exact VLe.full | exact VLe.nils | refine VLe.agg ?_ | exact VLe.fullE (dTms_one _) | exact VLe.fullE (dTms_two _ _) | exact VLe.fullE (dTms_three _ _ _) | exact VLe.fullE (dTys_one _) | exact VLe.fullE (dTys_two _ _) | exact VLe.fullE (dTys_three _ _ _)))) (T_ev 2 .nat (by decide) [vr 4] (by decide)) ⟨_, rfl, .inl ⟨_, rfl, rfl⟩⟩ rfl ?_
  first | refine s_callF rfl .rfl (r2_Same_ev _ (by decide) _) ⟨_, rfl, .inl ⟨_, rfl, rfl⟩⟩ rfl ?_ | refine s_callF rfl (by (repeat' (first | exact VLes.rfl | exact VLes.nil | exact VLe.rfl | refine VLes.cons ?_ ?_ | exact VLe.own | exact VLe.full | exact VLe.nils | refine VLe.agg ?_ | exact VLe.fullE (dTms_one _) | exact VLe.fullE (dTms_two _ _) | exact VLe.fullE (dTms_three _ _ _) | exact VLe.fullE (dTys_one _) | exact VLe.fullE (dTys_two _ _) | exact VLe.fullE (dTys_three _ _ _)))) (r2_Same_ev _ (by decide) _) ⟨_, rfl, .inl ⟨_, rfl, rfl⟩⟩ rfl ?_
  refine t_pick_t rfl rfl rfl rfl rfl ?_
  refine t_assign rfl rfl rfl ?_
  refine tr_nil ⟨by kernel_rfl, ?_⟩
  refine ac_ret ?_
  refine ⟨.inr rfl, _, ⟨_, _, rfl, rfl, rfl⟩, ?_, ?_⟩
  · refine VLe.boolE ?_
    decide
  · (intro l o h; cases h)
theorem SubstTypes_walk (L : List Int) (law : L.length ≤ 500 → putE (mkTerm L 100 3 ((mkCtx L 0).1 ++ [(mkType L 1 (mkCtx L 0).2).1]) (mkType L 1 (mkType L 1 (mkCtx L 0).2).2).1 (mkType L 1 (mkType L 1 (mkType L 1 (mkCtx L 0).2).2).2).2).1 0 (mkTerm L 100 2 (mkCtx L 0).1 (mkType L 1 (mkCtx L 0).2).1 (mkTerm L 100 3 ((mkCtx L 0).1 ++ [(mkType L 1 (mkCtx L 0).2).1]) (mkType L 1 (mkType L 1 (mkCtx L 0).2).2).1 (mkType L 1 (mkType L 1 (mkType L 1 (mkCtx L 0).2).2).2).2).2).1 = 0 ∧ typeOf (mkCtx L 0).1 ((mkTerm L 100 3 ((mkCtx L 0).1 ++ [(mkType L 1 (mkCtx L 0).2).1]) (mkType L 1 (mkType L 1 (mkCtx L 0).2).2).1 (mkType L 1 (mkType L 1 (mkType L 1 (mkCtx L 0).2).2).2).2).1.put 0 (mkTerm L 100 2 (mkCtx L 0).1 (mkType L 1 (mkCtx L 0).2).1 (mkTerm L 100 3 ((mkCtx L 0).1 ++ [(mkType L 1 (mkCtx L 0).2).1]) (mkType L 1 (mkType L 1 (mkCtx L 0).2).2).1 (mkType L 1 (mkType L 1 (mkType L 1 (mkCtx L 0).2).2).2).2).2).1) = (0, (mkType L 1 (mkType L 1 (mkCtx L 0).2).2).1) ∧ liftE (mkTerm L 100 2 (mkCtx L 0).1 (mkType L 1 (mkCtx L 0).2).1 (mkTerm L 100 3 ((mkCtx L 0).1 ++ [(mkType L 1 (mkCtx L 0).2).1]) (mkType L 1 (mkType L 1 (mkCtx L 0).2).2).1 (mkType L 1 (mkType L 1 (mkType L 1 (mkCtx L 0).2).2).2).2).2).1 0 1 = 0 ∧ typeOf ((mkCtx L 0).1 ++ [(mkType L 1 (mkType L 1 (mkType L 1 (mkCtx L 0).2).2).2).1]) ((mkTerm L 100 2 (mkCtx L 0).1 (mkType L 1 (mkCtx L 0).2).1 (mkTerm L 100 3 ((mkCtx L 0).1 ++ [(mkType L 1 (mkCtx L 0).2).1]) (mkType L 1 (mkType L 1 (mkCtx L 0).2).2).1 (mkType L 1 (mkType L 1 (mkType L 1 (mkCtx L 0).2).2).2).2).2).1.lift 0 1) = (0, (mkType L 1 (mkCtx L 0).2).1)
    ∧ ((mkTerm L 100 3 ((mkCtx L 0).1 ++ [(mkType L 1 (mkCtx L 0).2).1]) (mkType L 1 (mkType L 1 (mkCtx L 0).2).2).1 (mkType L 1 (mkType L 1 (mkType L 1 (mkCtx L 0).2).2).2).2).1.put 0 (mkTerm L 100 2 (mkCtx L 0).1 (mkType L 1 (mkCtx L 0).2).1 (mkTerm L 100 3 ((mkCtx L 0).1 ++ [(mkType L 1 (mkCtx L 0).2).1]) (mkType L 1 (mkType L 1 (mkCtx L 0).2).2).1 (mkType L 1 (mkType L 1 (mkType L 1 (mkCtx L 0).2).2).2).2).2).1).big ≤ 1000000 ∧ ((mkTerm L 100 2 (mkCtx L 0).1 (mkType L 1 (mkCtx L 0).2).1 (mkTerm L 100 3 ((mkCtx L 0).1 ++ [(mkType L 1 (mkCtx L 0).2).1]) (mkType L 1 (mkType L 1 (mkCtx L 0).2).2).1 (mkType L 1 (mkType L 1 (mkType L 1 (mkCtx L 0).2).2).2).2).2).1.lift 0 1).big ≤ 1000000) : Ev Tryd.prog GL 3 [.d (.slice (dInts L))] [] (.d (.bool true)) [] := by
  have hcl : (mkCtx L 0).1.length ≤ 3 := mkCtx_len L 0
  have hco : ∀ u ∈ (mkCtx L 0).1, u.okB = true := mkCtx_ok L 0
  have hcs : ∀ {l : List Typ}, (∀ u ∈ l, u.okB = true) → ∀ u ∈ l, u.sz ≤ 1000000 := fun h u hu => by have := (okB_iff.1 (h u hu)).2; omega
  have hso := mkType_ok1 L (mkCtx L 0).2
  have huo := mkType_ok1 L (mkType L 1 (mkCtx L 0).2).2
  have hvo := mkType_ok1 L (mkType L 1 (mkType L 1 (mkCtx L 0).2).2).2
  have huz := (okB_iff.1 huo).2
  have hsz := (okB_iff.1 hso).2
  have hfx : fuelOk 100 3 (mkType L 1 (mkType L 1 (mkCtx L 0).2).2).1 := .inr ⟨by omega, by omega⟩
  have hfy : fuelOk 100 2 (mkType L 1 (mkCtx L 0).2).1 := .inr ⟨by omega, by omega⟩
  have hxb := mkTerm_64k L 100 3 ((mkCtx L 0).1 ++ [(mkType L 1 (mkCtx L 0).2).1]) (mkType L 1 (mkType L 1 (mkCtx L 0).2).2).1 (mkType L 1 (mkType L 1 (mkType L 1 (mkCtx L 0).2).2).2).2 huo (ext hco hso) hfx (by omega)
  have hyb := mkTerm_64k L 100 2 (mkCtx L 0).1 (mkType L 1 (mkCtx L 0).2).1 (mkTerm L 100 3 ((mkCtx L 0).1 ++ [(mkType L 1 (mkCtx L 0).2).1]) (mkType L 1 (mkType L 1 (mkCtx L 0).2).2).1 (mkType L 1 (mkType L 1 (mkType L 1 (mkCtx L 0).2).2).2).2).2 hso hco hfy (by omega)
  -- live at cond 0: t0
  -- live at cond 1: t0
  refine ev_of_body (N := 96) (ks := []) (ρ0 := [(0, _)]) (σ0 := []) (rs := [.tmp 2]) Tryd.func3 rfl (by kernel_rfl) rfl rfl rfl rfl rfl rfl rfl rfl rfl rfl (fun E ι0 => ?_)
  refine ac_ts mixed ?_
  refine t_assign rfl rfl rfl ?_
  refine tr_nil ?_
  refine ac_seq ?_
  refine ac_ts mixed ?_
  first | refine s_callF rfl .rfl (sane_ev) rfl rfl ?_ | refine s_callF rfl (by (repeat' (first | exact VLes.rfl | exact VLes.nil | exact VLe.rfl | refine VLes.cons ?_ ?_ | exact VLe.own | exact VLe.full | exact VLe.nils | refine VLe.agg ?_ | exact VLe.fullE (dTms_one _) | exact VLe.fullE (dTms_two _ _) | exact VLe.fullE (dTms_three _ _ _) | exact VLe.fullE (dTys_one _) | exact VLe.fullE (dTys_two _ _) | exact VLe.fullE (dTys_three _ _ _)))) (sane_ev) rfl rfl ?_
  refine t_not rfl rfl rfl ?_
  refine tr_nil ?_
  refine ac_cond rfl (fun hb => by cases hb) (fun hb => ?_)
  refine ac_skip ?_
  change AC _ _ _ _ _
  refine ac_seq ?_
  refine ac_ts mixed ?_
  refine t_move rfl rfl rfl ?_
  first | refine s_callF rfl .rfl (Few_ev L) rfl rfl ?_ | refine s_callF rfl (by (repeat' (first | exact VLes.rfl | exact VLes.nil | exact VLe.rfl | refine VLes.cons ?_ ?_ | exact VLe.own | exact VLe.full | exact VLe.nils | refine VLe.agg ?_ | exact VLe.fullE (dTms_one _) | exact VLe.fullE (dTms_two _ _) | exact VLe.fullE (dTms_three _ _ _) | exact VLe.fullE (dTys_one _) | exact VLe.fullE (dTys_two _ _) | exact VLe.fullE (dTys_three _ _ _)))) (Few_ev L) rfl rfl ?_
  refine t_not rfl rfl rfl ?_
  refine tr_nil ?_
  refine ac_bool (fun hb1 => ?_) (fun hb1 => ?_)
  · refine ac_cond rfl (fun _ => ?_) (fun hb => by cases hb)
    refine ac_ts mixed ?_
    refine t_assign rfl rfl rfl ?_
    refine tr_nil ?_
    refine ac_ret ?_
    refine ⟨.inr rfl, _, ⟨_, _, rfl, rfl, rfl⟩, ?_, ?_⟩
    · (repeat' (first | exact VLe.rfl | exact VLes.rfl | exact VLes.nil | refine VLes.cons ?_ ?_ | refine VLe.agg ?_ | refine VLe.tup ?_ | exact VLe.own | exact VLe.full | exact VLe.nils | exact VLe.any | exact VLe.clo | exact VLe.fn | refine VLe.intE ?_ | refine VLe.boolE ?_ | refine VLe.sliceE ?_ | refine VLe.ownE ?_ | refine VLe.ownO ?_ | refine VLe.fullE ?_ | refine VLe.nilsE ?_))
    · (intro l o h; cases h)
  · refine ac_cond rfl (fun hb => by cases hb) (fun _ => ?_)
    have hL : L.length ≤ 500 := by simp at hb1; omega
    obtain ⟨p1, p2, p3, p4, p5, p6⟩ := law hL
    have a0 : 0 ≤ L.length := Nat.zero_le _
    have a1 : (mkCtx L 0).2 ≤ L.length := mkCtx_at L a0
    have a2 : (mkType L 1 (mkCtx L 0).2).2 ≤ L.length := mkType_at L 1 a1
    have a3 : (mkType L 1 (mkType L 1 (mkCtx L 0).2).2).2 ≤ L.length := mkType_at L 1 a2
    have a4 : (mkType L 1 (mkType L 1 (mkType L 1 (mkCtx L 0).2).2).2).2 ≤ L.length := mkType_at L 1 a3
    have a5 : (mkTerm L 100 3 ((mkCtx L 0).1 ++ [(mkType L 1 (mkCtx L 0).2).1]) (mkType L 1 (mkType L 1 (mkCtx L 0).2).2).1 (mkType L 1 (mkType L 1 (mkType L 1 (mkCtx L 0).2).2).2).2).2 ≤ L.length := mkTerm_at L 100 3 _ _ _ a4
    refine ac_skip ?_
    change AC _ _ _ _ _
    refine ac_ts mixed ?_
    refine t_move rfl rfl rfl ?_
    first | refine s_callSF rfl .rfl (New_ev L) rfl rfl rfl rfl rfl ?_ | refine s_callSF rfl (by (repeat' (first | exact VLes.rfl | exact VLes.nil | exact VLe.rfl | refine VLes.cons ?_ ?_ | exact VLe.own | exact VLe.full | exact VLe.nils | refine VLe.agg ?_ | exact VLe.fullE (dTms_one _) | exact VLe.fullE (dTms_two _ _) | exact VLe.fullE (dTms_three _ _ _) | exact VLe.fullE (dTys_one _) | exact VLe.fullE (dTys_two _ _) | exact VLe.fullE (dTys_three _ _ _)))) (New_ev L) rfl rfl rfl rfl rfl ?_
    refine t_assign rfl rfl rfl ?_
    refine tr_nil ?_
    refine ac_ts mixed ?_
    refine t_move rfl rfl rfl ?_
    first | refine s_callSF rfl .rfl (Context_ev L (by omega) 0 a0) rfl rfl rfl rfl rfl ?_ | refine s_callSF rfl (by (repeat' (first | exact VLes.rfl | exact VLes.nil | exact VLe.rfl | refine VLes.cons ?_ ?_ | exact VLe.own | exact VLe.full | exact VLe.nils | refine VLe.agg ?_ | exact VLe.fullE (dTms_one _) | exact VLe.fullE (dTms_two _ _) | exact VLe.fullE (dTms_three _ _ _) | exact VLe.fullE (dTys_one _) | exact VLe.fullE (dTys_two _ _) | exact VLe.fullE (dTys_three _ _ _)))) (Context_ev L (by omega) 0 a0) rfl rfl rfl rfl rfl ?_
    refine t_assign rfl rfl rfl ?_
    refine tr_nil ?_
    refine ac_ts mixed ?_
    refine t_move rfl rfl rfl ?_
    first | refine s_callSF rfl .rfl (Type_ev L (by omega) 1 (by omega) _ a1) rfl rfl rfl rfl rfl ?_ | refine s_callSF rfl (by (repeat' (first | exact VLes.rfl | exact VLes.nil | exact VLe.rfl | refine VLes.cons ?_ ?_ | exact VLe.own | exact VLe.full | exact VLe.nils | refine VLe.agg ?_ | exact VLe.fullE (dTms_one _) | exact VLe.fullE (dTms_two _ _) | exact VLe.fullE (dTms_three _ _ _) | exact VLe.fullE (dTys_one _) | exact VLe.fullE (dTys_two _ _) | exact VLe.fullE (dTys_three _ _ _)))) (Type_ev L (by omega) 1 (by omega) _ a1) rfl rfl rfl rfl rfl ?_
    refine t_move rfl rfl rfl ?_
    first | refine s_callSF rfl .rfl (Type_ev L (by omega) 1 (by omega) _ a2) rfl rfl rfl rfl rfl ?_ | refine s_callSF rfl (by (repeat' (first | exact VLes.rfl | exact VLes.nil | exact VLe.rfl | refine VLes.cons ?_ ?_ | exact VLe.own | exact VLe.full | exact VLe.nils | refine VLe.agg ?_ | exact VLe.fullE (dTms_one _) | exact VLe.fullE (dTms_two _ _) | exact VLe.fullE (dTms_three _ _ _) | exact VLe.fullE (dTys_one _) | exact VLe.fullE (dTys_two _ _) | exact VLe.fullE (dTys_three _ _ _)))) (Type_ev L (by omega) 1 (by omega) _ a2) rfl rfl rfl rfl rfl ?_
    refine t_move rfl rfl rfl ?_
    first | refine s_callSF rfl .rfl (Type_ev L (by omega) 1 (by omega) _ a3) rfl rfl rfl rfl rfl ?_ | refine s_callSF rfl (by (repeat' (first | exact VLes.rfl | exact VLes.nil | exact VLe.rfl | refine VLes.cons ?_ ?_ | exact VLe.own | exact VLe.full | exact VLe.nils | refine VLe.agg ?_ | exact VLe.fullE (dTms_one _) | exact VLe.fullE (dTms_two _ _) | exact VLe.fullE (dTms_three _ _ _) | exact VLe.fullE (dTys_one _) | exact VLe.fullE (dTys_two _ _) | exact VLe.fullE (dTys_three _ _ _)))) (Type_ev L (by omega) 1 (by omega) _ a3) rfl rfl rfl rfl rfl ?_
    refine s_alloc 5 zer30 rfl rfl rfl rfl ?_
    refine s_alloc 6 zer30 rfl rfl rfl rfl ?_
    refine s_alloc 7 zer30 rfl rfl rfl rfl ?_
    first | refine s_storeW ty30 rfl rfl rfl rfl rfl rfl rfl ?_ | refine s_store (ws := [_, _]) ty30 rfl rfl rfl rfl rfl rfl rfl rfl ?_
    first | refine s_storeW ty30 rfl rfl rfl rfl rfl rfl rfl ?_ | refine s_store (ws := [_, _]) ty30 rfl rfl rfl rfl rfl rfl rfl rfl ?_
    first | refine s_storeW ty30 rfl rfl rfl rfl rfl rfl rfl ?_ | refine s_store (ws := [_, _]) ty30 rfl rfl rfl rfl rfl rfl rfl rfl ?_
    refine tr_nil ?_
    refine ac_ds mixed ?_
    refine t_move rfl rfl rfl ?_
    refine t_move rfl rfl rfl ?_
    first | refine t_append_own rfl sli27 rfl rfl (by constructor) rfl (by (first | exact dTys_sz _ | exact dTms_sz _ | exact dInts_sz _ | exact sz_nil | exact sz_one rfl | exact sz_app (dTys_sz _) (sz_one rfl) | exact sz_app (dTms_sz _) (sz_one rfl))) (by (first | exact dTys_sz _ | exact dTms_sz _ | exact dInts_sz _ | exact sz_nil | exact sz_one rfl | exact sz_app (dTys_sz _) (sz_one rfl) | exact sz_app (dTms_sz _) (sz_one rfl))) (by (simp only [dTys_len, dTms_len, dInts_len, List.length_append, List.length_cons, List.length_nil, List.length_take]; omega)) rfl (List.nil_append _) rfl rfl ?_ | refine t_append rfl sli27 rfl (by first | exact VLe.nilfull | exact VLe.rfl) rfl (by constructor) (by (first | exact dTys_sz _ | exact dTms_sz _ | exact dInts_sz _ | exact sz_nil | exact sz_one rfl | exact sz_app (dTys_sz _) (sz_one rfl) | exact sz_app (dTms_sz _) (sz_one rfl))) (by (first | exact dTys_sz _ | exact dTms_sz _ | exact dInts_sz _ | exact sz_nil | exact sz_one rfl | exact sz_app (dTys_sz _) (sz_one rfl) | exact sz_app (dTms_sz _) (sz_one rfl))) (by (simp only [dTys_len, dTms_len, dInts_len, List.length_append, List.length_cons, List.length_nil, List.length_take]; omega)) rfl (List.nil_append _) rfl rfl rfl ?_
    first | refine t_load ty30 rfl rfl rfl rfl rfl rfl ?_ | refine s_loadWc ty30 rfl rfl rfl rfl ?_ | refine t_loadN (us := [_, _]) ty30 rfl rfl rfl rfl rfl rfl ?_ | refine t_loadNc (us := [_, _]) ty30 rfl rfl rfl rfl rfl ?_
    first | refine t_buildSlice sli27 (Opds.ofL rfl) (.cons (.agg .rfl) .nil) (by intro x hx; simp only [List.mem_cons, List.not_mem_nil, or_false] at hx; rcases hx with rfl <;> rfl) rfl rfl rfl rfl ?_ | refine t_buildSlice sli27 (Opds.ofL rfl) (Elems.ofL rfl) (by intro x hx; simp only [List.mem_cons, List.not_mem_nil, or_false] at hx; rcases hx with rfl <;> rfl) rfl rfl rfl rfl ?_
    first | refine t_append_own rfl sli27 rfl rfl (by constructor) rfl (by (first | exact dTys_sz _ | exact dTms_sz _ | exact dInts_sz _ | exact sz_nil | exact sz_one rfl | exact sz_app (dTys_sz _) (sz_one rfl) | exact sz_app (dTms_sz _) (sz_one rfl))) (by (first | exact dTys_sz _ | exact dTms_sz _ | exact dInts_sz _ | exact sz_nil | exact sz_one rfl | exact sz_app (dTys_sz _) (sz_one rfl) | exact sz_app (dTms_sz _) (sz_one rfl))) (by simp only [dTys_len, List.length_cons, List.length_nil]; omega) rfl (dTys_push _ _) rfl rfl ?_ | refine t_append rfl sli27 rfl (by first | exact VLe.nilfull | exact VLe.rfl) rfl (by constructor) (by (first | exact dTys_sz _ | exact dTms_sz _ | exact dInts_sz _ | exact sz_nil | exact sz_one rfl | exact sz_app (dTys_sz _) (sz_one rfl) | exact sz_app (dTms_sz _) (sz_one rfl))) (by (first | exact dTys_sz _ | exact dTms_sz _ | exact dInts_sz _ | exact sz_nil | exact sz_one rfl | exact sz_app (dTys_sz _) (sz_one rfl) | exact sz_app (dTms_sz _) (sz_one rfl))) (by simp only [dTys_len, List.length_cons, List.length_nil]; omega) rfl (dTys_push _ _) rfl rfl rfl ?_
    first | refine t_load ty30 rfl rfl rfl rfl rfl rfl ?_ | refine s_loadWc ty30 rfl rfl rfl rfl ?_ | refine t_loadN (us := [_, _]) ty30 rfl rfl rfl rfl rfl rfl ?_ | refine t_loadNc (us := [_, _]) ty30 rfl rfl rfl rfl rfl ?_
    refine s_callSF rfl (.cons .rfl (.cons .own .rfl)) (Term_ev L (by omega) 100 3 ((mkCtx L 0).1 ++ [(mkType L 1 (mkCtx L 0).2).1]) (mkType L 1 (mkType L 1 (mkCtx L 0).2).2).1 (mkType L 1 (mkType L 1 (mkType L 1 (mkCtx L 0).2).2).2).2 (by omega) (by omega) (by simp; omega) huo (ext hco hso) hfx a4) rfl rfl rfl rfl rfl ?_
    refine s_alloc 8 zer34 rfl rfl rfl rfl ?_
    first | refine s_storeW ty34 rfl rfl rfl rfl rfl rfl rfl ?_ | refine s_store (ws := [_, _, _, _, _]) ty34 rfl rfl rfl rfl rfl rfl rfl rfl ?_
    refine tr_nil ⟨by kernel_rfl, ?_⟩
    refine ac_ts mixed ?_
    refine t_move rfl rfl rfl ?_
    refine t_move rfl rfl rfl ?_
    first | refine t_load ty30 rfl rfl rfl rfl rfl rfl ?_ | refine s_loadWc ty30 rfl rfl rfl rfl ?_ | refine t_loadN (us := [_, _]) ty30 rfl rfl rfl rfl rfl rfl ?_ | refine t_loadNc (us := [_, _]) ty30 rfl rfl rfl rfl rfl ?_
    first | refine s_callSF rfl .rfl (Term_ev L (by omega) 100 2 (mkCtx L 0).1 (mkType L 1 (mkCtx L 0).2).1 (mkTerm L 100 3 ((mkCtx L 0).1 ++ [(mkType L 1 (mkCtx L 0).2).1]) (mkType L 1 (mkType L 1 (mkCtx L 0).2).2).1 (mkType L 1 (mkType L 1 (mkType L 1 (mkCtx L 0).2).2).2).2).2 (by omega) (by omega) (by omega) hso hco hfy a5) rfl rfl rfl rfl rfl ?_ | refine s_callSF rfl (by (repeat' (first | exact VLes.rfl | exact VLes.nil | exact VLe.rfl | refine VLes.cons ?_ ?_ | exact VLe.own | exact VLe.full | exact VLe.nils | refine VLe.agg ?_ | exact VLe.fullE (dTms_one _) | exact VLe.fullE (dTms_two _ _) | exact VLe.fullE (dTms_three _ _ _) | exact VLe.fullE (dTys_one _) | exact VLe.fullE (dTys_two _ _) | exact VLe.fullE (dTys_three _ _ _)))) (Term_ev L (by omega) 100 2 (mkCtx L 0).1 (mkType L 1 (mkCtx L 0).2).1 (mkTerm L 100 3 ((mkCtx L 0).1 ++ [(mkType L 1 (mkCtx L 0).2).1]) (mkType L 1 (mkType L 1 (mkCtx L 0).2).2).1 (mkType L 1 (mkType L 1 (mkType L 1 (mkCtx L 0).2).2).2).2).2 (by omega) (by omega) (by omega) hso hco hfy a5) rfl rfl rfl rfl rfl ?_
    refine s_alloc 9 zer34 rfl rfl rfl rfl ?_
    first | refine s_storeW ty34 rfl rfl rfl rfl rfl rfl rfl ?_ | refine s_store (ws := [_, _, _, _, _]) ty34 rfl rfl rfl rfl rfl rfl rfl rfl ?_
    refine tr_nil ?_
    refine ac_ts mixed ?_
    first | refine t_load ty34 rfl rfl rfl rfl rfl rfl ?_ | refine s_loadWc ty34 rfl rfl rfl rfl ?_ | refine t_loadN (us := [_, _, _, _, _]) ty34 rfl rfl rfl rfl rfl rfl ?_ | refine t_loadNc (us := [_, _, _, _, _]) ty34 rfl rfl rfl rfl rfl ?_
    first | refine t_load ty34 rfl rfl rfl rfl rfl rfl ?_ | refine s_loadWc ty34 rfl rfl rfl rfl ?_ | refine t_loadN (us := [_, _, _, _, _]) ty34 rfl rfl rfl rfl rfl rfl ?_ | refine t_loadNc (us := [_, _, _, _, _]) ty34 rfl rfl rfl rfl rfl ?_
    first | refine s_callF rfl .rfl (subst_Put_ev (mkTerm L 100 3 ((mkCtx L 0).1 ++ [(mkType L 1 (mkCtx L 0).2).1]) (mkType L 1 (mkType L 1 (mkCtx L 0).2).2).1 (mkType L 1 (mkType L 1 (mkType L 1 (mkCtx L 0).2).2).2).2).1 (by omega) 0 (mkTerm L 100 2 (mkCtx L 0).1 (mkType L 1 (mkCtx L 0).2).1 (mkTerm L 100 3 ((mkCtx L 0).1 ++ [(mkType L 1 (mkCtx L 0).2).1]) (mkType L 1 (mkType L 1 (mkCtx L 0).2).2).1 (mkType L 1 (mkType L 1 (mkType L 1 (mkCtx L 0).2).2).2).2).2).1 (by omega)) rfl rfl ?_ | refine s_callF rfl (by (repeat' (first | exact VLes.rfl | exact VLes.nil | exact VLe.rfl | refine VLes.cons ?_ ?_ | exact VLe.own | exact VLe.full | exact VLe.nils | refine VLe.agg ?_ | exact VLe.fullE (dTms_one _) | exact VLe.fullE (dTms_two _ _) | exact VLe.fullE (dTms_three _ _ _) | exact VLe.fullE (dTys_one _) | exact VLe.fullE (dTys_two _ _) | exact VLe.fullE (dTys_three _ _ _)))) (subst_Put_ev (mkTerm L 100 3 ((mkCtx L 0).1 ++ [(mkType L 1 (mkCtx L 0).2).1]) (mkType L 1 (mkType L 1 (mkCtx L 0).2).2).1 (mkType L 1 (mkType L 1 (mkType L 1 (mkCtx L 0).2).2).2).2).1 (by omega) 0 (mkTerm L 100 2 (mkCtx L 0).1 (mkType L 1 (mkCtx L 0).2).1 (mkTerm L 100 3 ((mkCtx L 0).1 ++ [(mkType L 1 (mkCtx L 0).2).1]) (mkType L 1 (mkType L 1 (mkCtx L 0).2).2).1 (mkType L 1 (mkType L 1 (mkType L 1 (mkCtx L 0).2).2).2).2).2).1 (by omega)) rfl rfl ?_
    simp only [p1, beq_self_eq_true, if_true]
    refine t_move rfl rfl rfl ?_
    refine t_extract rfl rfl rfl rfl ?_
    refine t_extract rfl rfl rfl rfl ?_
    refine s_alloc 10 zer34 rfl rfl rfl rfl ?_
    first | refine s_storeW ty34 rfl rfl rfl rfl rfl rfl rfl ?_ | refine s_store (ws := [_, _, _, _, _]) ty34 rfl rfl rfl rfl rfl rfl rfl rfl ?_
    refine t_assign rfl rfl rfl ?_
    refine tr_nil ?_
    refine ac_ts mixed ?_
    refine t_move rfl rfl rfl ?_
    first | refine t_load ty34 rfl rfl rfl rfl rfl rfl ?_ | refine s_loadWc ty34 rfl rfl rfl rfl ?_ | refine t_loadN (us := [_, _, _, _, _]) ty34 rfl rfl rfl rfl rfl rfl ?_ | refine t_loadNc (us := [_, _, _, _, _]) ty34 rfl rfl rfl rfl rfl ?_
    first | refine s_callF rfl .rfl (r2_TypeOf_ev (mkCtx L 0).1 (by omega) (hcs hco) ((mkTerm L 100 3 ((mkCtx L 0).1 ++ [(mkType L 1 (mkCtx L 0).2).1]) (mkType L 1 (mkType L 1 (mkCtx L 0).2).2).1 (mkType L 1 (mkType L 1 (mkType L 1 (mkCtx L 0).2).2).2).2).1.put 0 (mkTerm L 100 2 (mkCtx L 0).1 (mkType L 1 (mkCtx L 0).2).1 (mkTerm L 100 3 ((mkCtx L 0).1 ++ [(mkType L 1 (mkCtx L 0).2).1]) (mkType L 1 (mkType L 1 (mkCtx L 0).2).2).1 (mkType L 1 (mkType L 1 (mkType L 1 (mkCtx L 0).2).2).2).2).2).1) p5) rfl rfl ?_ | refine s_callF rfl (by (repeat' (first | exact VLes.rfl | exact VLes.nil | exact VLe.rfl | refine VLes.cons ?_ ?_ | exact VLe.own | exact VLe.full | exact VLe.nils | refine VLe.agg ?_ | exact VLe.fullE (dTms_one _) | exact VLe.fullE (dTms_two _ _) | exact VLe.fullE (dTms_three _ _ _) | exact VLe.fullE (dTys_one _) | exact VLe.fullE (dTys_two _ _) | exact VLe.fullE (dTys_three _ _ _)))) (r2_TypeOf_ev (mkCtx L 0).1 (by omega) (hcs hco) ((mkTerm L 100 3 ((mkCtx L 0).1 ++ [(mkType L 1 (mkCtx L 0).2).1]) (mkType L 1 (mkType L 1 (mkCtx L 0).2).2).1 (mkType L 1 (mkType L 1 (mkType L 1 (mkCtx L 0).2).2).2).2).1.put 0 (mkTerm L 100 2 (mkCtx L 0).1 (mkType L 1 (mkCtx L 0).2).1 (mkTerm L 100 3 ((mkCtx L 0).1 ++ [(mkType L 1 (mkCtx L 0).2).1]) (mkType L 1 (mkType L 1 (mkCtx L 0).2).2).1 (mkType L 1 (mkType L 1 (mkType L 1 (mkCtx L 0).2).2).2).2).2).1) p5) rfl rfl ?_
    simp only [p2]
    refine t_move rfl rfl rfl ?_
    refine t_extract rfl rfl rfl rfl ?_
    refine t_extract rfl rfl rfl rfl ?_
    refine s_alloc 12 zer30 rfl rfl rfl rfl ?_
    first | refine s_storeW ty30 rfl rfl rfl rfl rfl rfl rfl ?_ | refine s_store (ws := [_, _]) ty30 rfl rfl rfl rfl rfl rfl rfl rfl ?_
    refine t_assign rfl rfl rfl ?_
    refine tr_nil ?_
    refine ac_ts mixed ?_
    first | refine t_load ty34 rfl rfl rfl rfl rfl rfl ?_ | refine s_loadWc ty34 rfl rfl rfl rfl ?_ | refine t_loadN (us := [_, _, _, _, _]) ty34 rfl rfl rfl rfl rfl rfl ?_ | refine t_loadNc (us := [_, _, _, _, _]) ty34 rfl rfl rfl rfl rfl ?_
    first | refine s_callF rfl .rfl (subst_Lift_ev (mkTerm L 100 2 (mkCtx L 0).1 (mkType L 1 (mkCtx L 0).2).1 (mkTerm L 100 3 ((mkCtx L 0).1 ++ [(mkType L 1 (mkCtx L 0).2).1]) (mkType L 1 (mkType L 1 (mkCtx L 0).2).2).1 (mkType L 1 (mkType L 1 (mkType L 1 (mkCtx L 0).2).2).2).2).2).1 (by omega) 0 1) rfl rfl ?_ | refine s_callF rfl (by (repeat' (first | exact VLes.rfl | exact VLes.nil | exact VLe.rfl | refine VLes.cons ?_ ?_ | exact VLe.own | exact VLe.full | exact VLe.nils | refine VLe.agg ?_ | exact VLe.fullE (dTms_one _) | exact VLe.fullE (dTms_two _ _) | exact VLe.fullE (dTms_three _ _ _) | exact VLe.fullE (dTys_one _) | exact VLe.fullE (dTys_two _ _) | exact VLe.fullE (dTys_three _ _ _)))) (subst_Lift_ev (mkTerm L 100 2 (mkCtx L 0).1 (mkType L 1 (mkCtx L 0).2).1 (mkTerm L 100 3 ((mkCtx L 0).1 ++ [(mkType L 1 (mkCtx L 0).2).1]) (mkType L 1 (mkType L 1 (mkCtx L 0).2).2).1 (mkType L 1 (mkType L 1 (mkType L 1 (mkCtx L 0).2).2).2).2).2).1 (by omega) 0 1) rfl rfl ?_
    simp only [p3, beq_self_eq_true, if_true]
    refine t_move rfl rfl rfl ?_
    refine t_extract rfl rfl rfl rfl ?_
    refine t_extract rfl rfl rfl rfl ?_
    refine s_alloc 14 zer34 rfl rfl rfl rfl ?_
    first | refine s_storeW ty34 rfl rfl rfl rfl rfl rfl rfl ?_ | refine s_store (ws := [_, _, _, _, _]) ty34 rfl rfl rfl rfl rfl rfl rfl rfl ?_
    refine t_assign rfl rfl rfl ?_
    refine tr_nil ?_
    refine ac_ds mixed ?_
    refine t_move rfl rfl rfl ?_
    first | refine t_append_own rfl sli27 rfl rfl (by constructor) rfl (by (first | exact dTys_sz _ | exact dTms_sz _ | exact dInts_sz _ | exact sz_nil | exact sz_one rfl | exact sz_app (dTys_sz _) (sz_one rfl) | exact sz_app (dTms_sz _) (sz_one rfl))) (by (first | exact dTys_sz _ | exact dTms_sz _ | exact dInts_sz _ | exact sz_nil | exact sz_one rfl | exact sz_app (dTys_sz _) (sz_one rfl) | exact sz_app (dTms_sz _) (sz_one rfl))) (by (simp only [dTys_len, dTms_len, dInts_len, List.length_append, List.length_cons, List.length_nil, List.length_take]; omega)) rfl (List.nil_append _) rfl rfl ?_ | refine t_append rfl sli27 rfl (by first | exact VLe.nilfull | exact VLe.rfl) rfl (by constructor) (by (first | exact dTys_sz _ | exact dTms_sz _ | exact dInts_sz _ | exact sz_nil | exact sz_one rfl | exact sz_app (dTys_sz _) (sz_one rfl) | exact sz_app (dTms_sz _) (sz_one rfl))) (by (first | exact dTys_sz _ | exact dTms_sz _ | exact dInts_sz _ | exact sz_nil | exact sz_one rfl | exact sz_app (dTys_sz _) (sz_one rfl) | exact sz_app (dTms_sz _) (sz_one rfl))) (by (simp only [dTys_len, dTms_len, dInts_len, List.length_append, List.length_cons, List.length_nil, List.length_take]; omega)) rfl (List.nil_append _) rfl rfl rfl ?_
    first | refine t_load ty30 rfl rfl rfl rfl rfl rfl ?_ | refine s_loadWc ty30 rfl rfl rfl rfl ?_ | refine t_loadN (us := [_, _]) ty30 rfl rfl rfl rfl rfl rfl ?_ | refine t_loadNc (us := [_, _]) ty30 rfl rfl rfl rfl rfl ?_
    first | refine t_buildSlice sli27 (Opds.ofL rfl) (.cons (.agg .rfl) .nil) (by intro x hx; simp only [List.mem_cons, List.not_mem_nil, or_false] at hx; rcases hx with rfl <;> rfl) rfl rfl rfl rfl ?_ | refine t_buildSlice sli27 (Opds.ofL rfl) (Elems.ofL rfl) (by intro x hx; simp only [List.mem_cons, List.not_mem_nil, or_false] at hx; rcases hx with rfl <;> rfl) rfl rfl rfl rfl ?_
    first | refine t_append_own rfl sli27 rfl rfl (by constructor) rfl (by (first | exact dTys_sz _ | exact dTms_sz _ | exact dInts_sz _ | exact sz_nil | exact sz_one rfl | exact sz_app (dTys_sz _) (sz_one rfl) | exact sz_app (dTms_sz _) (sz_one rfl))) (by (first | exact dTys_sz _ | exact dTms_sz _ | exact dInts_sz _ | exact sz_nil | exact sz_one rfl | exact sz_app (dTys_sz _) (sz_one rfl) | exact sz_app (dTms_sz _) (sz_one rfl))) (by simp only [dTys_len, List.length_cons, List.length_nil]; omega) rfl (dTys_push _ _) rfl rfl ?_ | refine t_append rfl sli27 rfl (by first | exact VLe.nilfull | exact VLe.rfl) rfl (by constructor) (by (first | exact dTys_sz _ | exact dTms_sz _ | exact dInts_sz _ | exact sz_nil | exact sz_one rfl | exact sz_app (dTys_sz _) (sz_one rfl) | exact sz_app (dTms_sz _) (sz_one rfl))) (by (first | exact dTys_sz _ | exact dTms_sz _ | exact dInts_sz _ | exact sz_nil | exact sz_one rfl | exact sz_app (dTys_sz _) (sz_one rfl) | exact sz_app (dTms_sz _) (sz_one rfl))) (by simp only [dTys_len, List.length_cons, List.length_nil]; omega) rfl (dTys_push _ _) rfl rfl rfl ?_
    first | refine t_load ty34 rfl rfl rfl rfl rfl rfl ?_ | refine s_loadWc ty34 rfl rfl rfl rfl ?_ | refine t_loadN (us := [_, _, _, _, _]) ty34 rfl rfl rfl rfl rfl rfl ?_ | refine t_loadNc (us := [_, _, _, _, _]) ty34 rfl rfl rfl rfl rfl ?_
    refine s_callF rfl (.cons .own .rfl) (r2_TypeOf_ev ((mkCtx L 0).1 ++ [(mkType L 1 (mkType L 1 (mkType L 1 (mkCtx L 0).2).2).2).1]) (by simp; omega) (hcs (ext hco hvo)) ((mkTerm L 100 2 (mkCtx L 0).1 (mkType L 1 (mkCtx L 0).2).1 (mkTerm L 100 3 ((mkCtx L 0).1 ++ [(mkType L 1 (mkCtx L 0).2).1]) (mkType L 1 (mkType L 1 (mkCtx L 0).2).2).1 (mkType L 1 (mkType L 1 (mkType L 1 (mkCtx L 0).2).2).2).2).2).1.lift 0 1) p6) rfl rfl ?_
    simp only [p4]
    refine t_move rfl rfl rfl ?_
    refine t_extract rfl rfl rfl rfl ?_
    refine t_extract rfl rfl rfl rfl ?_
    refine s_alloc 16 zer30 rfl rfl rfl rfl ?_
    first | refine s_storeW ty30 rfl rfl rfl rfl rfl rfl rfl ?_ | refine s_store (ws := [_, _]) ty30 rfl rfl rfl rfl rfl rfl rfl rfl ?_
    refine t_assign rfl rfl rfl ?_
    refine tr_nil ⟨by kernel_rfl, ?_⟩
    refine ac_ts mixed ?_
    refine t_move rfl rfl rfl ?_
    refine t_bin rfl rfl .eql rfl rfl ?_
    refine t_move rfl rfl rfl ?_
    refine tr_known (e' := true) (rfl) ?_
    refine t_move rfl ⟨_, rfl, .inl ⟨_, rfl, rfl⟩⟩ rfl ?_
    refine t_bin rfl rfl .eql ⟨_, rfl, .inl ⟨_, rfl, rfl⟩⟩ rfl ?_
    refine t_pick_t rfl rfl rfl rfl rfl ?_
    refine t_move rfl rfl rfl ?_
    refine tr_known (e' := true) (rfl) ?_
    refine t_move rfl ⟨_, rfl, .inl ⟨_, rfl, rfl⟩⟩ rfl ?_
    refine t_bin rfl rfl .eql ⟨_, rfl, .inl ⟨_, rfl, rfl⟩⟩ rfl ?_
    refine t_pick_t rfl rfl rfl rfl rfl ?_
    refine t_move rfl rfl rfl ?_
    refine tr_known (e' := true) (rfl) ?_
    refine t_move rfl ⟨_, rfl, .inl ⟨_, rfl, rfl⟩⟩ rfl ?_
    refine t_bin rfl rfl .eql ⟨_, rfl, .inl ⟨_, rfl, rfl⟩⟩ rfl ?_
    refine t_pick_t rfl rfl rfl rfl rfl ?_
    refine t_move rfl rfl rfl ?_
    refine tr_known (e' := true) (rfl) ?_
    first | refine t_load ty30 rfl rfl rfl rfl ⟨_, rfl, .inl ⟨_, rfl, rfl⟩⟩ rfl ?_ | refine s_loadWc ty30 rfl rfl ⟨_, rfl, .inl ⟨_, rfl, rfl⟩⟩ rfl ?_ | refine t_loadN (us := [_, _]) ty30 rfl rfl rfl rfl ⟨_, rfl, .inl ⟨_, rfl, rfl⟩⟩ rfl ?_ | refine t_loadNc (us := [_, _]) ty30 rfl rfl rfl ⟨_, rfl, .inl ⟨_, rfl, rfl⟩⟩ rfl ?_
    first | refine t_load ty30 rfl rfl rfl rfl ⟨_, rfl, .inl ⟨_, rfl, rfl⟩⟩ rfl ?_ | refine s_loadWc ty30 rfl rfl ⟨_, rfl, .inl ⟨_, rfl, rfl⟩⟩ rfl ?_ | refine t_loadN (us := [_, _]) ty30 rfl rfl rfl rfl ⟨_, rfl, .inl ⟨_, rfl, rfl⟩⟩ rfl ?_ | refine t_loadNc (us := [_, _]) ty30 rfl rfl rfl ⟨_, rfl, .inl ⟨_, rfl, rfl⟩⟩ rfl ?_
    first | refine s_callF rfl .rfl (r1_Same_ev (mkType L 1 (mkType L 1 (mkCtx L 0).2).2).1 (by omega) (mkType L 1 (mkType L 1 (mkCtx L 0).2).2).1) ⟨_, rfl, .inl ⟨_, rfl, rfl⟩⟩ rfl ?_ | refine s_callF rfl (by (repeat' (first | exact VLes.rfl | exact VLes.nil | exact VLe.rfl | refine VLes.cons ?_ ?_ | exact VLe.own | exact VLe.full | exact VLe.nils | refine VLe.agg ?_ | exact VLe.fullE (dTms_one _) | exact VLe.fullE (dTms_two _ _) | exact VLe.fullE (dTms_three _ _ _) | exact VLe.fullE (dTys_one _) | exact VLe.fullE (dTys_two _ _) | exact VLe.fullE (dTys_three _ _ _)))) (r1_Same_ev (mkType L 1 (mkType L 1 (mkCtx L 0).2).2).1 (by omega) (mkType L 1 (mkType L 1 (mkCtx L 0).2).2).1) ⟨_, rfl, .inl ⟨_, rfl, rfl⟩⟩ rfl ?_
    refine t_pick_t rfl rfl rfl rfl rfl ?_
    refine t_move rfl rfl rfl ?_
    refine tr_known (e' := true) ((same_eq _ _).2 rfl) ?_
    first | refine t_load ty30 rfl rfl rfl rfl ⟨_, rfl, .inl ⟨_, rfl, rfl⟩⟩ rfl ?_ | refine s_loadWc ty30 rfl rfl ⟨_, rfl, .inl ⟨_, rfl, rfl⟩⟩ rfl ?_ | refine t_loadN (us := [_, _]) ty30 rfl rfl rfl rfl ⟨_, rfl, .inl ⟨_, rfl, rfl⟩⟩ rfl ?_ | refine t_loadNc (us := [_, _]) ty30 rfl rfl rfl ⟨_, rfl, .inl ⟨_, rfl, rfl⟩⟩ rfl ?_
    first | refine t_load ty30 rfl rfl rfl rfl ⟨_, rfl, .inl ⟨_, rfl, rfl⟩⟩ rfl ?_ | refine s_loadWc ty30 rfl rfl ⟨_, rfl, .inl ⟨_, rfl, rfl⟩⟩ rfl ?_ | refine t_loadN (us := [_, _]) ty30 rfl rfl rfl rfl ⟨_, rfl, .inl ⟨_, rfl, rfl⟩⟩ rfl ?_ | refine t_loadNc (us := [_, _]) ty30 rfl rfl rfl ⟨_, rfl, .inl ⟨_, rfl, rfl⟩⟩ rfl ?_
    first | refine s_callF rfl .rfl (r1_Same_ev (mkType L 1 (mkCtx L 0).2).1 (by omega) (mkType L 1 (mkCtx L 0).2).1) ⟨_, rfl, .inl ⟨_, rfl, rfl⟩⟩ rfl ?_ | refine s_callF rfl (by (repeat' (first | exact VLes.rfl | exact VLes.nil | exact VLe.rfl | refine VLes.cons ?_ ?_ | exact VLe.own | exact VLe.full | exact VLe.nils | refine VLe.agg ?_ | exact VLe.fullE (dTms_one _) | exact VLe.fullE (dTms_two _ _) | exact VLe.fullE (dTms_three _ _ _) | exact VLe.fullE (dTys_one _) | exact VLe.fullE (dTys_two _ _) | exact VLe.fullE (dTys_three _ _ _)))) (r1_Same_ev (mkType L 1 (mkCtx L 0).2).1 (by omega) (mkType L 1 (mkCtx L 0).2).1) ⟨_, rfl, .inl ⟨_, rfl, rfl⟩⟩ rfl ?_
    refine t_pick_t rfl rfl rfl rfl rfl ?_
    refine t_assign rfl rfl rfl ?_
    refine tr_nil ?_
    refine ac_ret ?_
    refine ⟨.inr rfl, _, ⟨_, _, rfl, rfl, rfl⟩, ?_, ?_⟩
    · refine VLe.boolE ?_
      exact (same_eq _ _).2 rfl
    · (intro l o h; cases h)
end Go.AM

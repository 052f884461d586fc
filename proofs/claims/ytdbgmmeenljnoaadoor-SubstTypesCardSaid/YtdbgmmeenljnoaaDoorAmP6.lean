/-
  Contracts: numerals, and what is made of a list of numbers.
-/
import Derived.Test.YtdbgmmeenljnoaaDoorAmP5
set_option linter.unusedVariables false
set_option linter.unusedSimpArgs false
set_option maxRecDepth 20000
namespace Go.AM
open Go Go.RowKit Go.Proofs

theorem lam_ev (t : Trm) (ht : t.big ≤ 1000000) : Ev Tryd.prog GL 52 [vTm t] [] (vTm (lamN t)) [] := by
  refine ev_of_body (N := 7) (ks := []) (ρ0 := [(0, _)]) (σ0 := []) (rs := [.cell 2 34]) Tryd.func52 rfl (by kernel_rfl) rfl rfl rfl rfl rfl rfl rfl rfl rfl rfl (fun E ι0 => ?_)
  refine ac_ts mixed ?_
  refine s_box 1 rfl rfl rfl rfl rfl ?_
  refine s_alloc 2 zer34 rfl rfl rfl rfl ?_
  refine tr_nil ?_
  refine ac_ds mixed ?_
  first | refine s_callF rfl .rfl (r1_Nat_ev) rfl rfl ?_ | refine s_callF rfl (by (repeat' (first | exact VLes.rfl | exact VLes.nil | exact VLe.rfl | refine VLes.cons ?_ ?_ | exact VLe.own | exact VLe.full | exact VLe.nils | refine VLe.agg ?_ | exact VLe.fullE (dTms_one _) | exact VLe.fullE (dTms_two _ _) | exact VLe.fullE (dTms_three _ _ _) | exact VLe.fullE (dTys_one _) | exact VLe.fullE (dTys_two _ _) | exact VLe.fullE (dTys_three _ _ _)))) (r1_Nat_ev) rfl rfl ?_
  first | refine t_load ty34 rfl rfl rfl rfl rfl rfl ?_ | refine s_loadWc ty34 rfl rfl rfl rfl ?_ | refine t_loadN (us := [_, _, _, _, _]) ty34 rfl rfl rfl rfl rfl rfl ?_ | refine t_loadNc (us := [_, _, _, _, _]) ty34 rfl rfl rfl rfl rfl ?_
  first | refine t_buildSlice sli32 (Opds.ofL rfl) (.cons (.agg .rfl) .nil) (by intro x hx; simp only [List.mem_cons, List.not_mem_nil, or_false] at hx; rcases hx with rfl <;> rfl) rfl rfl rfl rfl ?_ | refine t_buildSlice sli32 (Opds.ofL rfl) (Elems.ofL rfl) (by intro x hx; simp only [List.mem_cons, List.not_mem_nil, or_false] at hx; rcases hx with rfl <;> rfl) rfl rfl rfl rfl ?_
  first | refine s_callF rfl .rfl (T_ev 2 .nat (by decide) [t] (by simpa [bigTms] using ht)) rfl rfl ?_ | refine s_callF rfl (by (repeat' (first | exact VLes.rfl | exact VLes.nil | exact VLe.rfl | refine VLes.cons ?_ ?_ | exact VLe.own | exact VLe.full | exact VLe.nils | refine VLe.agg ?_ | exact VLe.fullE (dTms_one _) | exact VLe.fullE (dTms_two _ _) | exact VLe.fullE (dTms_three _ _ _) | exact VLe.fullE (dTys_one _) | exact VLe.fullE (dTys_two _ _) | exact VLe.fullE (dTys_three _ _ _)))) (T_ev 2 .nat (by decide) [t] (by simpa [bigTms] using ht)) rfl rfl ?_
  first | refine s_storeW ty34 rfl rfl rfl rfl rfl rfl rfl ?_ | refine s_store (ws := [_, _, _, _, _]) ty34 rfl rfl rfl rfl rfl rfl rfl rfl ?_
  refine tr_nil ⟨by kernel_rfl, ?_⟩
  refine ac_ret ?_
  refine ⟨.inr rfl, _, ⟨_, _, _, _, _, rfl, rfl, rfl, .inl (retAgg ty34 rfl), rfl⟩, ?_, ?_⟩
  · (repeat' (first | exact VLe.rfl | exact VLes.rfl | exact VLes.nil | refine VLes.cons ?_ ?_ | refine VLe.agg ?_ | refine VLe.tup ?_ | exact VLe.own | exact VLe.full | exact VLe.nils | exact VLe.any | exact VLe.clo | exact VLe.fn | refine VLe.intE ?_ | refine VLe.boolE ?_ | refine VLe.sliceE ?_ | refine VLe.ownE ?_ | refine VLe.ownO ?_ | refine VLe.fullE ?_ | refine VLe.nilsE ?_))
  · (intro l o h; cases h)
theorem rec_ev (a b c : Trm) (ha : a.big ≤ 100000) (hb : b.big ≤ 100000) (hc : c.big ≤ 100000) : Ev Tryd.prog GL 53 [vTm a, vTm b, vTm c] [] (vTm (recN a b c)) [] := by
  refine ev_of_body (N := 13) (ks := []) (ρ0 := [(0, _), (1, _), (2, _)]) (σ0 := []) (rs := [.cell 6 34]) Tryd.func53 rfl (by kernel_rfl) rfl rfl rfl rfl rfl rfl rfl rfl rfl rfl (fun E ι0 => ?_)
  refine ac_ts mixed ?_
  refine s_box 3 rfl rfl rfl rfl rfl ?_
  refine s_box 4 rfl rfl rfl rfl rfl ?_
  refine s_box 5 rfl rfl rfl rfl rfl ?_
  refine s_alloc 6 zer34 rfl rfl rfl rfl ?_
  refine tr_nil ?_
  refine ac_ds mixed ?_
  first | refine s_callF rfl .rfl (r1_Nat_ev) rfl rfl ?_ | refine s_callF rfl (by (repeat' (first | exact VLes.rfl | exact VLes.nil | exact VLe.rfl | refine VLes.cons ?_ ?_ | exact VLe.own | exact VLe.full | exact VLe.nils | refine VLe.agg ?_ | exact VLe.fullE (dTms_one _) | exact VLe.fullE (dTms_two _ _) | exact VLe.fullE (dTms_three _ _ _) | exact VLe.fullE (dTys_one _) | exact VLe.fullE (dTys_two _ _) | exact VLe.fullE (dTys_three _ _ _)))) (r1_Nat_ev) rfl rfl ?_
  first | refine t_load ty34 rfl rfl rfl rfl rfl rfl ?_ | refine s_loadWc ty34 rfl rfl rfl rfl ?_ | refine t_loadN (us := [_, _, _, _, _]) ty34 rfl rfl rfl rfl rfl rfl ?_ | refine t_loadNc (us := [_, _, _, _, _]) ty34 rfl rfl rfl rfl rfl ?_
  first | refine t_load ty34 rfl rfl rfl rfl rfl rfl ?_ | refine s_loadWc ty34 rfl rfl rfl rfl ?_ | refine t_loadN (us := [_, _, _, _, _]) ty34 rfl rfl rfl rfl rfl rfl ?_ | refine t_loadNc (us := [_, _, _, _, _]) ty34 rfl rfl rfl rfl rfl ?_
  first | refine t_load ty34 rfl rfl rfl rfl rfl rfl ?_ | refine s_loadWc ty34 rfl rfl rfl rfl ?_ | refine t_loadN (us := [_, _, _, _, _]) ty34 rfl rfl rfl rfl rfl rfl ?_ | refine t_loadNc (us := [_, _, _, _, _]) ty34 rfl rfl rfl rfl rfl ?_
  first | refine t_buildSlice sli32 (Opds.ofL rfl) (.cons (.agg .rfl) (.cons (.agg .rfl) (.cons (.agg .rfl) .nil))) (by intro x hx; simp only [List.mem_cons, List.not_mem_nil, or_false] at hx; rcases hx with rfl | rfl | rfl <;> rfl) rfl rfl rfl rfl ?_ | refine t_buildSlice sli32 (Opds.ofL rfl) (Elems.ofL rfl) (by intro x hx; simp only [List.mem_cons, List.not_mem_nil, or_false] at hx; rcases hx with rfl | rfl | rfl <;> rfl) rfl rfl rfl rfl ?_
  first | refine s_callF rfl .rfl (T_ev 6 .nat (by decide) [a, b, c] (by simp [bigTms]; omega)) rfl rfl ?_ | refine s_callF rfl (by (repeat' (first | exact VLes.rfl | exact VLes.nil | exact VLe.rfl | refine VLes.cons ?_ ?_ | exact VLe.own | exact VLe.full | exact VLe.nils | refine VLe.agg ?_ | exact VLe.fullE (dTms_one _) | exact VLe.fullE (dTms_two _ _) | exact VLe.fullE (dTms_three _ _ _) | exact VLe.fullE (dTys_one _) | exact VLe.fullE (dTys_two _ _) | exact VLe.fullE (dTys_three _ _ _)))) (T_ev 6 .nat (by decide) [a, b, c] (by simp [bigTms]; omega)) rfl rfl ?_
  first | refine s_storeW ty34 rfl rfl rfl rfl rfl rfl rfl ?_ | refine s_store (ws := [_, _, _, _, _]) ty34 rfl rfl rfl rfl rfl rfl rfl rfl ?_
  refine tr_nil ⟨by kernel_rfl, ?_⟩
  refine ac_ret ?_
  refine ⟨.inr rfl, _, ⟨_, _, _, _, _, rfl, rfl, rfl, .inl (retAgg ty34 rfl), rfl⟩, ?_, ?_⟩
  · (repeat' (first | exact VLe.rfl | exact VLes.rfl | exact VLes.nil | refine VLes.cons ?_ ?_ | refine VLe.agg ?_ | refine VLe.tup ?_ | exact VLe.own | exact VLe.full | exact VLe.nils | exact VLe.any | exact VLe.clo | exact VLe.fn | refine VLe.intE ?_ | refine VLe.boolE ?_ | refine VLe.sliceE ?_ | refine VLe.ownE ?_ | refine VLe.ownO ?_ | refine VLe.fullE ?_ | refine VLe.nilsE ?_))
  · (intro l o h; cases h)
theorem Pred_ev : Ev Tryd.prog GL 54 [] [] (vTm predT) [] := by
  refine ev_of_body (N := 8) (ks := []) (ρ0 := []) (σ0 := []) (rs := [.cell 0 34]) Tryd.func54 rfl (by kernel_rfl) rfl rfl rfl rfl rfl rfl rfl rfl rfl rfl (fun E ι0 => ?_)
  refine ac_ts mixed ?_
  refine s_alloc 0 zer34 rfl rfl rfl rfl ?_
  refine tr_nil ?_
  refine ac_ts mixed ?_
  first | refine s_callF rfl .rfl (N_ev 4 [] (by decide)) rfl rfl ?_ | refine s_callF rfl (by (repeat' (first | exact VLes.rfl | exact VLes.nil | exact VLe.rfl | refine VLes.cons ?_ ?_ | exact VLe.own | exact VLe.full | exact VLe.nils | refine VLe.agg ?_ | exact VLe.fullE (dTms_one _) | exact VLe.fullE (dTms_two _ _) | exact VLe.fullE (dTms_three _ _ _) | exact VLe.fullE (dTys_one _) | exact VLe.fullE (dTys_two _ _) | exact VLe.fullE (dTys_three _ _ _)))) (N_ev 4 [] (by decide)) rfl rfl ?_
  first | refine s_callF rfl .rfl (r2_Var_ev _) rfl rfl ?_ | refine s_callF rfl (by (repeat' (first | exact VLes.rfl | exact VLes.nil | exact VLe.rfl | refine VLes.cons ?_ ?_ | exact VLe.own | exact VLe.full | exact VLe.nils | refine VLe.agg ?_ | exact VLe.fullE (dTms_one _) | exact VLe.fullE (dTms_two _ _) | exact VLe.fullE (dTms_three _ _ _) | exact VLe.fullE (dTys_one _) | exact VLe.fullE (dTys_two _ _) | exact VLe.fullE (dTys_three _ _ _)))) (r2_Var_ev _) rfl rfl ?_
  first | refine s_callF rfl .rfl (lam_ev (vr 1) (by decide)) rfl rfl ?_ | refine s_callF rfl (by (repeat' (first | exact VLes.rfl | exact VLes.nil | exact VLe.rfl | refine VLes.cons ?_ ?_ | exact VLe.own | exact VLe.full | exact VLe.nils | refine VLe.agg ?_ | exact VLe.fullE (dTms_one _) | exact VLe.fullE (dTms_two _ _) | exact VLe.fullE (dTms_three _ _ _) | exact VLe.fullE (dTys_one _) | exact VLe.fullE (dTys_two _ _) | exact VLe.fullE (dTys_three _ _ _)))) (lam_ev (vr 1) (by decide)) rfl rfl ?_
  first | refine s_callF rfl .rfl (lam_ev (lamN (vr 1)) (by decide)) rfl rfl ?_ | refine s_callF rfl (by (repeat' (first | exact VLes.rfl | exact VLes.nil | exact VLe.rfl | refine VLes.cons ?_ ?_ | exact VLe.own | exact VLe.full | exact VLe.nils | refine VLe.agg ?_ | exact VLe.fullE (dTms_one _) | exact VLe.fullE (dTms_two _ _) | exact VLe.fullE (dTms_three _ _ _) | exact VLe.fullE (dTys_one _) | exact VLe.fullE (dTys_two _ _) | exact VLe.fullE (dTys_three _ _ _)))) (lam_ev (lamN (vr 1)) (by decide)) rfl rfl ?_
  first | refine s_callF rfl .rfl (r2_Var_ev _) rfl rfl ?_ | refine s_callF rfl (by (repeat' (first | exact VLes.rfl | exact VLes.nil | exact VLe.rfl | refine VLes.cons ?_ ?_ | exact VLe.own | exact VLe.full | exact VLe.nils | refine VLe.agg ?_ | exact VLe.fullE (dTms_one _) | exact VLe.fullE (dTms_two _ _) | exact VLe.fullE (dTms_three _ _ _) | exact VLe.fullE (dTys_one _) | exact VLe.fullE (dTys_two _ _) | exact VLe.fullE (dTys_three _ _ _)))) (r2_Var_ev _) rfl rfl ?_
  first | refine s_callF rfl .rfl (rec_ev (tm 4 []) (lamN (lamN (vr 1))) (vr 0) (by decide) (by decide) (by decide)) rfl rfl ?_ | refine s_callF rfl (by (repeat' (first | exact VLes.rfl | exact VLes.nil | exact VLe.rfl | refine VLes.cons ?_ ?_ | exact VLe.own | exact VLe.full | exact VLe.nils | refine VLe.agg ?_ | exact VLe.fullE (dTms_one _) | exact VLe.fullE (dTms_two _ _) | exact VLe.fullE (dTms_three _ _ _) | exact VLe.fullE (dTys_one _) | exact VLe.fullE (dTys_two _ _) | exact VLe.fullE (dTys_three _ _ _)))) (rec_ev (tm 4 []) (lamN (lamN (vr 1))) (vr 0) (by decide) (by decide) (by decide)) rfl rfl ?_
  first | refine s_callF rfl .rfl (lam_ev (recN (tm 4 []) (lamN (lamN (vr 1))) (vr 0)) (by decide)) rfl rfl ?_ | refine s_callF rfl (by (repeat' (first | exact VLes.rfl | exact VLes.nil | exact VLe.rfl | refine VLes.cons ?_ ?_ | exact VLe.own | exact VLe.full | exact VLe.nils | refine VLe.agg ?_ | exact VLe.fullE (dTms_one _) | exact VLe.fullE (dTms_two _ _) | exact VLe.fullE (dTms_three _ _ _) | exact VLe.fullE (dTys_one _) | exact VLe.fullE (dTys_two _ _) | exact VLe.fullE (dTys_three _ _ _)))) (lam_ev (recN (tm 4 []) (lamN (lamN (vr 1))) (vr 0)) (by decide)) rfl rfl ?_
  first | refine s_storeW ty34 rfl rfl rfl rfl rfl rfl rfl ?_ | refine s_store (ws := [_, _, _, _, _]) ty34 rfl rfl rfl rfl rfl rfl rfl rfl ?_
  refine tr_nil ?_
  refine ac_ret ?_
  refine ⟨.inr rfl, _, ⟨_, _, _, _, _, rfl, rfl, rfl, .inl (retAgg ty34 rfl), rfl⟩, ?_, ?_⟩
  · (repeat' (first | exact VLe.rfl | exact VLes.rfl | exact VLes.nil | refine VLes.cons ?_ ?_ | refine VLe.agg ?_ | refine VLe.tup ?_ | exact VLe.own | exact VLe.full | exact VLe.nils | exact VLe.any | exact VLe.clo | exact VLe.fn | refine VLe.intE ?_ | refine VLe.boolE ?_ | refine VLe.sliceE ?_ | refine VLe.ownE ?_ | refine VLe.ownO ?_ | refine VLe.fullE ?_ | refine VLe.nilsE ?_))
  · (intro l o h; cases h)
theorem Plus_ev : Ev Tryd.prog GL 33 [] [] (vTm plusT) [] := by
  refine ev_of_body (N := 11) (ks := []) (ρ0 := []) (σ0 := []) (rs := [.cell 0 34]) Tryd.func33 rfl (by kernel_rfl) rfl rfl rfl rfl rfl rfl rfl rfl rfl rfl (fun E ι0 => ?_)
  refine ac_ts mixed ?_
  refine s_alloc 0 zer34 rfl rfl rfl rfl ?_
  refine tr_nil ?_
  refine ac_ts mixed ?_
  first | refine s_callF rfl .rfl (r2_Var_ev _) rfl rfl ?_ | refine s_callF rfl (by (repeat' (first | exact VLes.rfl | exact VLes.nil | exact VLe.rfl | refine VLes.cons ?_ ?_ | exact VLe.own | exact VLe.full | exact VLe.nils | refine VLe.agg ?_ | exact VLe.fullE (dTms_one _) | exact VLe.fullE (dTms_two _ _) | exact VLe.fullE (dTms_three _ _ _) | exact VLe.fullE (dTys_one _) | exact VLe.fullE (dTys_two _ _) | exact VLe.fullE (dTys_three _ _ _)))) (r2_Var_ev _) rfl rfl ?_
  first | refine s_callF rfl .rfl (r2_Var_ev _) rfl rfl ?_ | refine s_callF rfl (by (repeat' (first | exact VLes.rfl | exact VLes.nil | exact VLe.rfl | refine VLes.cons ?_ ?_ | exact VLe.own | exact VLe.full | exact VLe.nils | refine VLe.agg ?_ | exact VLe.fullE (dTms_one _) | exact VLe.fullE (dTms_two _ _) | exact VLe.fullE (dTms_three _ _ _) | exact VLe.fullE (dTys_one _) | exact VLe.fullE (dTys_two _ _) | exact VLe.fullE (dTys_three _ _ _)))) (r2_Var_ev _) rfl rfl ?_
  first | refine t_buildSlice sli32 (Opds.ofL rfl) (.cons (.agg .rfl) .nil) (by intro x hx; simp only [List.mem_cons, List.not_mem_nil, or_false] at hx; rcases hx with rfl <;> rfl) rfl rfl rfl rfl ?_ | refine t_buildSlice sli32 (Opds.ofL rfl) (Elems.ofL rfl) (by intro x hx; simp only [List.mem_cons, List.not_mem_nil, or_false] at hx; rcases hx with rfl <;> rfl) rfl rfl rfl rfl ?_
  first | refine s_callF rfl .rfl (N_ev 5 [vr 0] (by decide)) rfl rfl ?_ | refine s_callF rfl (by (repeat' (first | exact VLes.rfl | exact VLes.nil | exact VLe.rfl | refine VLes.cons ?_ ?_ | exact VLe.own | exact VLe.full | exact VLe.nils | refine VLe.agg ?_ | exact VLe.fullE (dTms_one _) | exact VLe.fullE (dTms_two _ _) | exact VLe.fullE (dTms_three _ _ _) | exact VLe.fullE (dTys_one _) | exact VLe.fullE (dTys_two _ _) | exact VLe.fullE (dTys_three _ _ _)))) (N_ev 5 [vr 0] (by decide)) rfl rfl ?_
  first | refine s_callF rfl .rfl (lam_ev (tm 5 [vr 0]) (by decide)) rfl rfl ?_ | refine s_callF rfl (by (repeat' (first | exact VLes.rfl | exact VLes.nil | exact VLe.rfl | refine VLes.cons ?_ ?_ | exact VLe.own | exact VLe.full | exact VLe.nils | refine VLe.agg ?_ | exact VLe.fullE (dTms_one _) | exact VLe.fullE (dTms_two _ _) | exact VLe.fullE (dTms_three _ _ _) | exact VLe.fullE (dTys_one _) | exact VLe.fullE (dTys_two _ _) | exact VLe.fullE (dTys_three _ _ _)))) (lam_ev (tm 5 [vr 0]) (by decide)) rfl rfl ?_
  first | refine s_callF rfl .rfl (lam_ev (lamN (tm 5 [vr 0])) (by decide)) rfl rfl ?_ | refine s_callF rfl (by (repeat' (first | exact VLes.rfl | exact VLes.nil | exact VLe.rfl | refine VLes.cons ?_ ?_ | exact VLe.own | exact VLe.full | exact VLe.nils | refine VLe.agg ?_ | exact VLe.fullE (dTms_one _) | exact VLe.fullE (dTms_two _ _) | exact VLe.fullE (dTms_three _ _ _) | exact VLe.fullE (dTys_one _) | exact VLe.fullE (dTys_two _ _) | exact VLe.fullE (dTys_three _ _ _)))) (lam_ev (lamN (tm 5 [vr 0])) (by decide)) rfl rfl ?_
  first | refine s_callF rfl .rfl (r2_Var_ev _) rfl rfl ?_ | refine s_callF rfl (by (repeat' (first | exact VLes.rfl | exact VLes.nil | exact VLe.rfl | refine VLes.cons ?_ ?_ | exact VLe.own | exact VLe.full | exact VLe.nils | refine VLe.agg ?_ | exact VLe.fullE (dTms_one _) | exact VLe.fullE (dTms_two _ _) | exact VLe.fullE (dTms_three _ _ _) | exact VLe.fullE (dTys_one _) | exact VLe.fullE (dTys_two _ _) | exact VLe.fullE (dTys_three _ _ _)))) (r2_Var_ev _) rfl rfl ?_
  first | refine s_callF rfl .rfl (rec_ev (vr 1) (lamN (lamN (tm 5 [vr 0]))) (vr 0) (by decide) (by decide) (by decide)) rfl rfl ?_ | refine s_callF rfl (by (repeat' (first | exact VLes.rfl | exact VLes.nil | exact VLe.rfl | refine VLes.cons ?_ ?_ | exact VLe.own | exact VLe.full | exact VLe.nils | refine VLe.agg ?_ | exact VLe.fullE (dTms_one _) | exact VLe.fullE (dTms_two _ _) | exact VLe.fullE (dTms_three _ _ _) | exact VLe.fullE (dTys_one _) | exact VLe.fullE (dTys_two _ _) | exact VLe.fullE (dTys_three _ _ _)))) (rec_ev (vr 1) (lamN (lamN (tm 5 [vr 0]))) (vr 0) (by decide) (by decide) (by decide)) rfl rfl ?_
  first | refine s_callF rfl .rfl (lam_ev (recN (vr 1) (lamN (lamN (tm 5 [vr 0]))) (vr 0)) (by decide)) rfl rfl ?_ | refine s_callF rfl (by (repeat' (first | exact VLes.rfl | exact VLes.nil | exact VLe.rfl | refine VLes.cons ?_ ?_ | exact VLe.own | exact VLe.full | exact VLe.nils | refine VLe.agg ?_ | exact VLe.fullE (dTms_one _) | exact VLe.fullE (dTms_two _ _) | exact VLe.fullE (dTms_three _ _ _) | exact VLe.fullE (dTys_one _) | exact VLe.fullE (dTys_two _ _) | exact VLe.fullE (dTys_three _ _ _)))) (lam_ev (recN (vr 1) (lamN (lamN (tm 5 [vr 0]))) (vr 0)) (by decide)) rfl rfl ?_
  first | refine s_callF rfl .rfl (lam_ev (lamN (recN (vr 1) (lamN (lamN (tm 5 [vr 0]))) (vr 0))) (by decide)) rfl rfl ?_ | refine s_callF rfl (by (repeat' (first | exact VLes.rfl | exact VLes.nil | exact VLe.rfl | refine VLes.cons ?_ ?_ | exact VLe.own | exact VLe.full | exact VLe.nils | refine VLe.agg ?_ | exact VLe.fullE (dTms_one _) | exact VLe.fullE (dTms_two _ _) | exact VLe.fullE (dTms_three _ _ _) | exact VLe.fullE (dTys_one _) | exact VLe.fullE (dTys_two _ _) | exact VLe.fullE (dTys_three _ _ _)))) (lam_ev (lamN (recN (vr 1) (lamN (lamN (tm 5 [vr 0]))) (vr 0))) (by decide)) rfl rfl ?_
  first | refine s_storeW ty34 rfl rfl rfl rfl rfl rfl rfl ?_ | refine s_store (ws := [_, _, _, _, _]) ty34 rfl rfl rfl rfl rfl rfl rfl rfl ?_
  refine tr_nil ?_
  refine ac_ret ?_
  refine ⟨.inr rfl, _, ⟨_, _, _, _, _, rfl, rfl, rfl, .inl (retAgg ty34 rfl), rfl⟩, ?_, ?_⟩
  · (repeat' (first | exact VLe.rfl | exact VLes.rfl | exact VLes.nil | refine VLes.cons ?_ ?_ | refine VLe.agg ?_ | refine VLe.tup ?_ | exact VLe.own | exact VLe.full | exact VLe.nils | exact VLe.any | exact VLe.clo | exact VLe.fn | refine VLe.intE ?_ | refine VLe.boolE ?_ | refine VLe.sliceE ?_ | refine VLe.ownE ?_ | refine VLe.ownO ?_ | refine VLe.fullE ?_ | refine VLe.nilsE ?_))
  · (intro l o h; cases h)
theorem Sub_ev : Ev Tryd.prog GL 34 [] [] (vTm subT) [] := by
  refine ev_of_body (N := 12) (ks := []) (ρ0 := []) (σ0 := []) (rs := [.cell 0 34]) Tryd.func34 rfl (by kernel_rfl) rfl rfl rfl rfl rfl rfl rfl rfl rfl rfl (fun E ι0 => ?_)
  refine ac_ts mixed ?_
  refine s_alloc 0 zer34 rfl rfl rfl rfl ?_
  refine tr_nil ?_
  refine ac_ts mixed ?_
  first | refine s_callF rfl .rfl (r2_Var_ev _) rfl rfl ?_ | refine s_callF rfl (by (repeat' (first | exact VLes.rfl | exact VLes.nil | exact VLe.rfl | refine VLes.cons ?_ ?_ | exact VLe.own | exact VLe.full | exact VLe.nils | refine VLe.agg ?_ | exact VLe.fullE (dTms_one _) | exact VLe.fullE (dTms_two _ _) | exact VLe.fullE (dTms_three _ _ _) | exact VLe.fullE (dTys_one _) | exact VLe.fullE (dTys_two _ _) | exact VLe.fullE (dTys_three _ _ _)))) (r2_Var_ev _) rfl rfl ?_
  first | refine s_callF rfl .rfl (Pred_ev) rfl rfl ?_ | refine s_callF rfl (by (repeat' (first | exact VLes.rfl | exact VLes.nil | exact VLe.rfl | refine VLes.cons ?_ ?_ | exact VLe.own | exact VLe.full | exact VLe.nils | refine VLe.agg ?_ | exact VLe.fullE (dTms_one _) | exact VLe.fullE (dTms_two _ _) | exact VLe.fullE (dTms_three _ _ _) | exact VLe.fullE (dTys_one _) | exact VLe.fullE (dTys_two _ _) | exact VLe.fullE (dTys_three _ _ _)))) (Pred_ev) rfl rfl ?_
  first | refine s_callF rfl .rfl (r2_Var_ev _) rfl rfl ?_ | refine s_callF rfl (by (repeat' (first | exact VLes.rfl | exact VLes.nil | exact VLe.rfl | refine VLes.cons ?_ ?_ | exact VLe.own | exact VLe.full | exact VLe.nils | refine VLe.agg ?_ | exact VLe.fullE (dTms_one _) | exact VLe.fullE (dTms_two _ _) | exact VLe.fullE (dTms_three _ _ _) | exact VLe.fullE (dTys_one _) | exact VLe.fullE (dTys_two _ _) | exact VLe.fullE (dTys_three _ _ _)))) (r2_Var_ev _) rfl rfl ?_
  first | refine t_buildSlice sli32 (Opds.ofL rfl) (.cons (.agg .rfl) (.cons (.agg .rfl) .nil)) (by intro x hx; simp only [List.mem_cons, List.not_mem_nil, or_false] at hx; rcases hx with rfl | rfl <;> rfl) rfl rfl rfl rfl ?_ | refine t_buildSlice sli32 (Opds.ofL rfl) (Elems.ofL rfl) (by intro x hx; simp only [List.mem_cons, List.not_mem_nil, or_false] at hx; rcases hx with rfl | rfl <;> rfl) rfl rfl rfl rfl ?_
  first | refine s_callF rfl .rfl (N_ev 3 [predT, vr 0] (by decide)) rfl rfl ?_ | refine s_callF rfl (by (repeat' (first | exact VLes.rfl | exact VLes.nil | exact VLe.rfl | refine VLes.cons ?_ ?_ | exact VLe.own | exact VLe.full | exact VLe.nils | refine VLe.agg ?_ | exact VLe.fullE (dTms_one _) | exact VLe.fullE (dTms_two _ _) | exact VLe.fullE (dTms_three _ _ _) | exact VLe.fullE (dTys_one _) | exact VLe.fullE (dTys_two _ _) | exact VLe.fullE (dTys_three _ _ _)))) (N_ev 3 [predT, vr 0] (by decide)) rfl rfl ?_
  first | refine s_callF rfl .rfl (lam_ev (tm 3 [predT, vr 0]) (by decide)) rfl rfl ?_ | refine s_callF rfl (by (repeat' (first | exact VLes.rfl | exact VLes.nil | exact VLe.rfl | refine VLes.cons ?_ ?_ | exact VLe.own | exact VLe.full | exact VLe.nils | refine VLe.agg ?_ | exact VLe.fullE (dTms_one _) | exact VLe.fullE (dTms_two _ _) | exact VLe.fullE (dTms_three _ _ _) | exact VLe.fullE (dTys_one _) | exact VLe.fullE (dTys_two _ _) | exact VLe.fullE (dTys_three _ _ _)))) (lam_ev (tm 3 [predT, vr 0]) (by decide)) rfl rfl ?_
  first | refine s_callF rfl .rfl (lam_ev (lamN (tm 3 [predT, vr 0])) (by decide)) rfl rfl ?_ | refine s_callF rfl (by (repeat' (first | exact VLes.rfl | exact VLes.nil | exact VLe.rfl | refine VLes.cons ?_ ?_ | exact VLe.own | exact VLe.full | exact VLe.nils | refine VLe.agg ?_ | exact VLe.fullE (dTms_one _) | exact VLe.fullE (dTms_two _ _) | exact VLe.fullE (dTms_three _ _ _) | exact VLe.fullE (dTys_one _) | exact VLe.fullE (dTys_two _ _) | exact VLe.fullE (dTys_three _ _ _)))) (lam_ev (lamN (tm 3 [predT, vr 0])) (by decide)) rfl rfl ?_
  first | refine s_callF rfl .rfl (r2_Var_ev _) rfl rfl ?_ | refine s_callF rfl (by (repeat' (first | exact VLes.rfl | exact VLes.nil | exact VLe.rfl | refine VLes.cons ?_ ?_ | exact VLe.own | exact VLe.full | exact VLe.nils | refine VLe.agg ?_ | exact VLe.fullE (dTms_one _) | exact VLe.fullE (dTms_two _ _) | exact VLe.fullE (dTms_three _ _ _) | exact VLe.fullE (dTys_one _) | exact VLe.fullE (dTys_two _ _) | exact VLe.fullE (dTys_three _ _ _)))) (r2_Var_ev _) rfl rfl ?_
  first | refine s_callF rfl .rfl (rec_ev (vr 1) (lamN (lamN (tm 3 [predT, vr 0]))) (vr 0) (by decide) (by decide) (by decide)) rfl rfl ?_ | refine s_callF rfl (by (repeat' (first | exact VLes.rfl | exact VLes.nil | exact VLe.rfl | refine VLes.cons ?_ ?_ | exact VLe.own | exact VLe.full | exact VLe.nils | refine VLe.agg ?_ | exact VLe.fullE (dTms_one _) | exact VLe.fullE (dTms_two _ _) | exact VLe.fullE (dTms_three _ _ _) | exact VLe.fullE (dTys_one _) | exact VLe.fullE (dTys_two _ _) | exact VLe.fullE (dTys_three _ _ _)))) (rec_ev (vr 1) (lamN (lamN (tm 3 [predT, vr 0]))) (vr 0) (by decide) (by decide) (by decide)) rfl rfl ?_
  first | refine s_callF rfl .rfl (lam_ev (recN (vr 1) (lamN (lamN (tm 3 [predT, vr 0]))) (vr 0)) (by decide)) rfl rfl ?_ | refine s_callF rfl (by (repeat' (first | exact VLes.rfl | exact VLes.nil | exact VLe.rfl | refine VLes.cons ?_ ?_ | exact VLe.own | exact VLe.full | exact VLe.nils | refine VLe.agg ?_ | exact VLe.fullE (dTms_one _) | exact VLe.fullE (dTms_two _ _) | exact VLe.fullE (dTms_three _ _ _) | exact VLe.fullE (dTys_one _) | exact VLe.fullE (dTys_two _ _) | exact VLe.fullE (dTys_three _ _ _)))) (lam_ev (recN (vr 1) (lamN (lamN (tm 3 [predT, vr 0]))) (vr 0)) (by decide)) rfl rfl ?_
  first | refine s_callF rfl .rfl (lam_ev (lamN (recN (vr 1) (lamN (lamN (tm 3 [predT, vr 0]))) (vr 0))) (by decide)) rfl rfl ?_ | refine s_callF rfl (by (repeat' (first | exact VLes.rfl | exact VLes.nil | exact VLe.rfl | refine VLes.cons ?_ ?_ | exact VLe.own | exact VLe.full | exact VLe.nils | refine VLe.agg ?_ | exact VLe.fullE (dTms_one _) | exact VLe.fullE (dTms_two _ _) | exact VLe.fullE (dTms_three _ _ _) | exact VLe.fullE (dTys_one _) | exact VLe.fullE (dTys_two _ _) | exact VLe.fullE (dTys_three _ _ _)))) (lam_ev (lamN (recN (vr 1) (lamN (lamN (tm 3 [predT, vr 0]))) (vr 0))) (by decide)) rfl rfl ?_
  first | refine s_storeW ty34 rfl rfl rfl rfl rfl rfl rfl ?_ | refine s_store (ws := [_, _, _, _, _]) ty34 rfl rfl rfl rfl rfl rfl rfl rfl ?_
  refine tr_nil ?_
  refine ac_ret ?_
  refine ⟨.inr rfl, _, ⟨_, _, _, _, _, rfl, rfl, rfl, .inl (retAgg ty34 rfl), rfl⟩, ?_, ?_⟩
  · (repeat' (first | exact VLe.rfl | exact VLes.rfl | exact VLes.nil | refine VLes.cons ?_ ?_ | refine VLe.agg ?_ | refine VLe.tup ?_ | exact VLe.own | exact VLe.full | exact VLe.nils | exact VLe.any | exact VLe.clo | exact VLe.fn | refine VLe.intE ?_ | refine VLe.boolE ?_ | refine VLe.sliceE ?_ | refine VLe.ownE ?_ | refine VLe.ownO ?_ | refine VLe.fullE ?_ | refine VLe.nilsE ?_))
  · (intro l o h; cases h)
theorem numeral_ev (n : Nat) (hn : n < 4096) : Ev Tryd.prog GL 69 [.d (.int .i64 n)] [] (vTm (num n)) [] := by
  -- live at block 0: t2(ptr), t3(ptr)
  -- live at block 1: t0, t2(ptr), t3(ptr)
  -- live at cond 0: t0, t2(ptr), t3(ptr)
  -- live at loop 0: t0, t2(ptr), t3(ptr)
  refine ev_of_body (N := 13) (ks := []) (ρ0 := [(0, _)]) (σ0 := []) (rs := [.cell 2 34]) Tryd.func69 rfl (by kernel_rfl) rfl rfl rfl rfl rfl rfl rfl rfl rfl rfl (fun E ι0 => ?_)
  refine ac_ts mixed ?_
  refine s_alloc 2 zer34 rfl rfl rfl rfl ?_
  refine tr_nil ?_
  refine ac_ts mixed ?_
  first | refine s_callF rfl .rfl (N_ev 4 [] (by decide)) rfl rfl ?_ | refine s_callF rfl (by (repeat' (first | exact VLes.rfl | exact VLes.nil | exact VLe.rfl | refine VLes.cons ?_ ?_ | exact VLe.own | exact VLe.full | exact VLe.nils | refine VLe.agg ?_ | exact VLe.fullE (dTms_one _) | exact VLe.fullE (dTms_two _ _) | exact VLe.fullE (dTms_three _ _ _) | exact VLe.fullE (dTys_one _) | exact VLe.fullE (dTys_two _ _) | exact VLe.fullE (dTys_three _ _ _)))) (N_ev 4 [] (by decide)) rfl rfl ?_
  refine s_alloc 3 zer34 rfl rfl rfl rfl ?_
  first | refine s_storeW ty34 rfl rfl rfl rfl rfl rfl rfl ?_ | refine s_store (ws := [_, _, _, _, _]) ty34 rfl rfl rfl rfl rfl rfl rfl rfl ?_
  refine tr_nil ?_
  refine ac_seq ?_
  refine ac_block ?_
  refine ac_while (fun (j : Nat) => ⟨[(2, .ptr 2 0), (3, .ptr 3 0), (0, .d (.int .i64 ((n - j : Nat) : Int)))], [(2, some (.cells [.d (.int .i64 0), .d (.int .i64 0), .d (.int .i64 0), .d .nils, .d .nils] 34)), (3, some (.cells ((dTm (num j)).map V.d) 34))], [2, 3]⟩) (fun (j : Nat) => j ≤ n) (fun (j : Nat) => n - j) (0) ?_ ?_ (fun j hI => ?_)
  · omega
  · (refine weak_of ?_ ?_ rfl rfl rfl <;> (repeat' (first | exact trivial | refine ⟨⟨_, rfl, ?_⟩, ?_⟩ | exact OLe.rfl | refine OLe.cells ?_ | exact VLe.rfl | exact VLes.rfl | exact VLes.nil | refine VLes.cons ?_ ?_ | refine VLe.agg ?_ | refine VLe.tup ?_ | exact VLe.own | exact VLe.full | exact VLe.nils | exact VLe.any | exact VLe.clo | exact VLe.fn | refine VLe.intE ?_ | refine VLe.boolE ?_ | refine VLe.sliceE ?_ | refine VLe.ownE ?_ | refine VLe.ownO ?_ | refine VLe.fullE ?_ | refine VLe.nilsE ?_ | refine OLe.row ?_)))
  skip
  refine ac_seq ?_
  refine ac_ts mixed ?_
  refine t_move rfl rfl rfl ?_
  refine t_bin rfl rfl .gtr rfl rfl ?_
  refine tr_nil ?_
  refine ac_bool (fun hb0 => ?_) (fun hb0 => ?_)
  · refine ac_cond rfl (fun _ => ?_) (fun hb => by cases hb)
    have hlt : j < n := by simp at hb0; omega
    refine ac_skip ?_
    change AC _ _ _ _ _
    refine ac_seq ?_
    refine ac_block ?_
    refine ac_t mixed ?_
    first | refine t_load ty34 rfl rfl rfl rfl rfl rfl ?_ | refine s_loadWc ty34 rfl rfl rfl rfl ?_ | refine t_loadN (us := [_, _, _, _, _]) ty34 rfl rfl rfl rfl rfl rfl ?_ | refine t_loadNc (us := [_, _, _, _, _]) ty34 rfl rfl rfl rfl rfl ?_
    first | refine t_buildSlice sli32 (Opds.ofL rfl) (.cons (.agg .rfl) .nil) (fun x hx => by simp at hx; subst hx; rfl) rfl rfl rfl rfl ?_ | refine t_buildSlice sli32 (Opds.ofL rfl) (Elems.ofL rfl) (fun x hx => by simp at hx; subst hx; rfl) rfl rfl rfl rfl ?_
    refine s_build (res := [_, _, _, _, _]) zer34 plc34 rfl rfl rfl rfl rfl ?_
    first | refine s_storeW ty34 rfl rfl rfl rfl rfl rfl rfl ?_ | refine s_store (ws := [_, _, _, _, _]) ty34 rfl rfl rfl rfl rfl rfl rfl rfl ?_
    refine tr_nil ?_
    change AC _ _ _ _ _
    refine ac_t mixed ?_
    refine t_move rfl rfl rfl ?_
    refine t_bin rfl rfl .sub rfl rfl ?_
    refine t_assign rfl rfl rfl ?_
    refine tr_nil ?_
    show ∃ y, _ ∧ _ ∧ Weak _ _ _
    refine ⟨j + 1, ?_, ?_, ?_⟩
    · omega
    · omega
    · (refine weak_of ?_ ?_ rfl rfl rfl <;> (repeat' (first | exact trivial | refine ⟨⟨_, rfl, ?_⟩, ?_⟩ | exact OLe.rfl | refine OLe.cells ?_ | exact VLe.rfl | exact VLes.rfl | exact VLes.nil | refine VLes.cons ?_ ?_ | refine VLe.agg ?_ | refine VLe.tup ?_ | exact VLe.own | exact VLe.full | exact VLe.nils | exact VLe.any | exact VLe.clo | exact VLe.fn | refine VLe.intE ?_ | refine VLe.boolE ?_ | refine VLe.sliceE ?_ | refine VLe.ownE ?_ | refine VLe.ownO ?_ | refine VLe.fullE ?_ | refine VLe.nilsE ?_ | refine OLe.row ?_)))
      all_goals first | (rw [i64_id (by omega) (by omega)]; omega) | exact dTms_one _ | rfl
  · refine ac_cond rfl (fun hb => by cases hb) (fun _ => ?_)
    have hlt : j = n := by simp at hb0; omega
    subst hlt
    refine ac_exit ?_
    change AC _ _ _ _ _
    refine ac_ts mixed ?_
    first | refine t_load ty34 rfl rfl rfl rfl rfl rfl ?_ | refine s_loadWc ty34 rfl rfl rfl rfl ?_ | refine t_loadN (us := [_, _, _, _, _]) ty34 rfl rfl rfl rfl rfl rfl ?_ | refine t_loadNc (us := [_, _, _, _, _]) ty34 rfl rfl rfl rfl rfl ?_
    first | refine s_storeW ty34 rfl rfl rfl rfl rfl rfl rfl ?_ | refine s_store (ws := [_, _, _, _, _]) ty34 rfl rfl rfl rfl rfl rfl rfl rfl ?_
    refine tr_nil ?_
    refine ac_ret ?_
    refine ⟨.inr rfl, _, ⟨_, _, _, _, _, rfl, rfl, rfl, .inl (retAgg ty34 rfl), rfl⟩, ?_, ?_⟩
    · (repeat' (first | exact VLe.rfl | exact VLes.rfl | exact VLes.nil | refine VLes.cons ?_ ?_ | refine VLe.agg ?_ | refine VLe.tup ?_ | exact VLe.own | exact VLe.full | exact VLe.nils | exact VLe.any | exact VLe.clo | exact VLe.fn | refine VLe.intE ?_ | refine VLe.boolE ?_ | refine VLe.sliceE ?_ | refine VLe.ownE ?_ | refine VLe.ownO ?_ | refine VLe.fullE ?_ | refine VLe.nilsE ?_))
    · (intro l o h; cases h)
theorem Number_ev (n : Nat) (hn : n < 4096) : Ev Tryd.prog GL 51 [.d (.int .i64 n)] [] (.tup [vTm (num n), .d (.int .i64 0)]) [] := by
  -- live at cond 0: t0, t2(ptr)
  -- live at cond 1: t0, t2(ptr)
  refine ev_of_body (N := 12) (ks := []) (ρ0 := [(0, _)]) (σ0 := []) (rs := [.cell 2 34, .tmp 3]) Tryd.func51 rfl (by kernel_rfl) rfl rfl rfl rfl rfl rfl rfl rfl rfl rfl (fun E ι0 => ?_)
  refine ac_ts mixed ?_
  refine s_alloc 2 zer34 rfl rfl rfl rfl ?_
  refine t_assign rfl rfl rfl ?_
  refine tr_nil ?_
  refine ac_seq ?_
  refine ac_ts mixed ?_
  refine t_move rfl rfl rfl ?_
  refine t_bin rfl rfl .lss rfl rfl ?_
  refine tr_nil ?_
  refine ac_cond rfl (fun hb => by simp at hb; omega) (fun hb => ?_)
  refine ac_skip ?_
  change AC _ _ _ _ _
  refine ac_seq ?_
  refine ac_ts mixed ?_
  refine t_move rfl rfl rfl ?_
  refine t_bin rfl rfl .geq rfl rfl ?_
  refine tr_nil ?_
  refine ac_cond rfl (fun hb => by simp at hb; omega) (fun hb => ?_)
  refine ac_skip ?_
  change AC _ _ _ _ _
  refine ac_ts mixed ?_
  refine t_move rfl rfl rfl ?_
  first | refine s_callF rfl .rfl (numeral_ev n hn) rfl rfl ?_ | refine s_callF rfl (by (repeat' (first | exact VLes.rfl | exact VLes.nil | exact VLe.rfl | refine VLes.cons ?_ ?_ | exact VLe.own | exact VLe.full | exact VLe.nils | refine VLe.agg ?_ | exact VLe.fullE (dTms_one _) | exact VLe.fullE (dTms_two _ _) | exact VLe.fullE (dTms_three _ _ _) | exact VLe.fullE (dTys_one _) | exact VLe.fullE (dTys_two _ _) | exact VLe.fullE (dTys_three _ _ _)))) (numeral_ev n hn) rfl rfl ?_
  first | refine s_storeW ty34 rfl rfl rfl rfl rfl rfl rfl ?_ | refine s_store (ws := [_, _, _, _, _]) ty34 rfl rfl rfl rfl rfl rfl rfl rfl ?_
  refine t_assign rfl rfl rfl ?_
  refine tr_nil ?_
  refine ac_ret ?_
  refine ⟨.inr rfl, _, ⟨_, _, _, _, _, rfl, rfl, rfl, .inl (retAgg ty34 rfl), ⟨_, _, rfl, rfl, rfl⟩⟩, ?_, ?_⟩
  · (repeat' (first | exact VLe.rfl | exact VLes.rfl | exact VLes.nil | refine VLes.cons ?_ ?_ | refine VLe.agg ?_ | refine VLe.tup ?_ | exact VLe.own | exact VLe.full | exact VLe.nils | exact VLe.any | exact VLe.clo | exact VLe.fn | refine VLe.intE ?_ | refine VLe.boolE ?_ | refine VLe.sliceE ?_ | refine VLe.ownE ?_ | refine VLe.ownO ?_ | refine VLe.fullE ?_ | refine VLe.nilsE ?_))
  · (intro l o h; cases h)
theorem Num_ev (n : Nat) (hn : n < 4096) : Ev Tryd.prog GL 31 [.d (.int .i64 n)] [] (vTm (num n)) [] := by
  refine ev_of_body (N := 11) (ks := []) (ρ0 := [(0, _)]) (σ0 := []) (rs := [.cell 2 34]) Tryd.func31 rfl (by kernel_rfl) rfl rfl rfl rfl rfl rfl rfl rfl rfl rfl (fun E ι0 => ?_)
  refine ac_ts mixed ?_
  refine s_alloc 2 zer34 rfl rfl rfl rfl ?_
  refine tr_nil ?_
  refine ac_ts mixed ?_
  refine t_move rfl rfl rfl ?_
  first | refine s_callF rfl .rfl (Number_ev n hn) rfl rfl ?_ | refine s_callF rfl (by (repeat' (first | exact VLes.rfl | exact VLes.nil | exact VLe.rfl | refine VLes.cons ?_ ?_ | exact VLe.own | exact VLe.full | exact VLe.nils | refine VLe.agg ?_ | exact VLe.fullE (dTms_one _) | exact VLe.fullE (dTms_two _ _) | exact VLe.fullE (dTms_three _ _ _) | exact VLe.fullE (dTys_one _) | exact VLe.fullE (dTys_two _ _) | exact VLe.fullE (dTys_three _ _ _)))) (Number_ev n hn) rfl rfl ?_
  refine t_move rfl rfl rfl ?_
  refine t_extract rfl rfl rfl rfl ?_
  refine t_extract rfl rfl rfl rfl ?_
  refine s_alloc 3 zer34 rfl rfl rfl rfl ?_
  first | refine s_storeW ty34 rfl rfl rfl rfl rfl rfl rfl ?_ | refine s_store (ws := [_, _, _, _, _]) ty34 rfl rfl rfl rfl rfl rfl rfl rfl ?_
  refine t_assign rfl rfl rfl ?_
  refine tr_nil ?_
  refine ac_ts mixed ?_
  first | refine t_load ty34 rfl rfl rfl rfl rfl rfl ?_ | refine s_loadWc ty34 rfl rfl rfl rfl ?_ | refine t_loadN (us := [_, _, _, _, _]) ty34 rfl rfl rfl rfl rfl rfl ?_ | refine t_loadNc (us := [_, _, _, _, _]) ty34 rfl rfl rfl rfl rfl ?_
  first | refine s_storeW ty34 rfl rfl rfl rfl rfl rfl rfl ?_ | refine s_store (ws := [_, _, _, _, _]) ty34 rfl rfl rfl rfl rfl rfl rfl rfl ?_
  refine tr_nil ?_
  refine ac_ret ?_
  refine ⟨.inr rfl, _, ⟨_, _, _, _, _, rfl, rfl, rfl, .inl (retAgg ty34 rfl), rfl⟩, ?_, ?_⟩
  · (repeat' (first | exact VLe.rfl | exact VLes.rfl | exact VLes.nil | refine VLes.cons ?_ ?_ | refine VLe.agg ?_ | refine VLe.tup ?_ | exact VLe.own | exact VLe.full | exact VLe.nils | exact VLe.any | exact VLe.clo | exact VLe.fn | refine VLe.intE ?_ | refine VLe.boolE ?_ | refine VLe.sliceE ?_ | refine VLe.ownE ?_ | refine VLe.ownO ?_ | refine VLe.fullE ?_ | refine VLe.nilsE ?_))
  · (intro l o h; cases h)
theorem App_ev (f : Trm) (l : List Trm) (h : f.big + bigTms l + 2 * l.length ≤ 1000000) : Ev Tryd.prog GL 32 [vTm f, .d (.slice (dTms l))] [] (vTm (appT f l)) [] := by
  have hlen : l.length ≤ 1000000 := by omega
  -- live at block 0: t2(ptr), t4(ptr)
  -- live at block 1: t2(ptr), t4(ptr), t7, t8, t9
  -- live at cond 0: t2(ptr), t4(ptr), t7, t8, t9
  -- live at loop 0: t2(ptr), t4(ptr), t7, t8, t9
  refine ev_of_body (N := 19) (ks := []) (ρ0 := [(0, _), (1, _)]) (σ0 := []) (rs := [.cell 4 34]) Tryd.func32 rfl (by kernel_rfl) rfl rfl rfl rfl rfl rfl rfl rfl rfl rfl (fun E ι0 => ?_)
  refine ac_ts mixed ?_
  refine s_box 2 rfl rfl rfl rfl rfl ?_
  refine s_alloc 4 zer34 rfl rfl rfl rfl ?_
  refine tr_nil ?_
  refine ac_seq ?_
  refine ac_ts mixed ?_
  refine t_move rfl rfl rfl ?_
  refine t_len rfl sli32 rfl (by constructor) rfl rfl ?_
  refine t_move rfl rfl rfl ?_
  refine tr_nil ?_
  refine ac_range mixed ((dTms l).length) (fun i => [(2, .ptr 2 0), (4, .ptr 4 0), (7, .d (.slice (dTms l)))]) (fun i => [(2, some (.cells ((dTm (appT f (l.take i))).map V.d) 34)), (4, some (.cells [.d (.int .i64 0), .d (.int .i64 0), .d (.int .i64 0), .d .nils, .d .nils] 34))]) (fun i => [2, 4]) (fun i => True) trivial ?_ (by first | omega | (simp only [dTys_len, dTms_len, dInts_len, List.length_append, List.length_cons, List.length_nil, List.length_take]; omega)) rfl (fun i => ⟨rfl, rfl⟩) (fun i hi hI => ?_) (fun hI => ?_)
  · (refine weak_of ?_ ?_ rfl rfl rfl <;> (repeat' (first | exact trivial | refine ⟨⟨_, rfl, ?_⟩, ?_⟩ | exact OLe.rfl | refine OLe.cells ?_ | exact VLe.rfl | exact VLes.rfl | exact VLes.nil | refine VLes.cons ?_ ?_ | refine VLe.agg ?_ | refine VLe.tup ?_ | exact VLe.own | exact VLe.full | exact VLe.nils | exact VLe.any | exact VLe.clo | exact VLe.fn | refine VLe.intE ?_ | refine VLe.boolE ?_ | refine VLe.sliceE ?_ | refine VLe.ownE ?_ | refine VLe.ownO ?_ | refine VLe.fullE ?_ | refine VLe.nilsE ?_ | refine OLe.row ?_)))
  · rw [dTms_len] at hi
    have hg : l[i]? = some l[i] := List.getElem?_eq_getElem hi
    have hget := dTms_get hg
    have h2 := appT_big (l.take i) f
    have h3 : bigTms (l.take i) + l[i].big ≤ bigTms l := bigTms_take hg
    have h4 : (l.take i).length ≤ l.length := by rw [List.length_take]; omega
    refine ac_ts mixed ?_
    refine t_indexAddr sli32 rfl (by constructor) rfl (Int.natCast_nonneg _) hget rfl rfl rfl ?_
    first | refine t_load ty34 rfl rfl rfl rfl rfl rfl ?_ | refine s_loadWc ty34 rfl rfl rfl rfl ?_ | refine t_loadN (us := [_, _, _, _, _]) ty34 rfl rfl rfl rfl rfl rfl ?_ | refine t_loadNc (us := [_, _, _, _, _]) ty34 rfl rfl rfl rfl rfl ?_
    refine s_alloc 6 zer34 rfl rfl rfl rfl ?_
    first | refine s_storeW ty34 rfl rfl rfl rfl rfl rfl rfl ?_ | refine s_store (ws := [_, _, _, _, _]) ty34 rfl rfl rfl rfl rfl rfl rfl rfl ?_
    refine tr_nil ?_
    refine ac_t mixed ?_
    first | refine t_load ty34 rfl rfl rfl rfl rfl rfl ?_ | refine s_loadWc ty34 rfl rfl rfl rfl ?_ | refine t_loadN (us := [_, _, _, _, _]) ty34 rfl rfl rfl rfl rfl rfl ?_ | refine t_loadNc (us := [_, _, _, _, _]) ty34 rfl rfl rfl rfl rfl ?_
    first | refine t_load ty34 rfl rfl rfl rfl rfl rfl ?_ | refine s_loadWc ty34 rfl rfl rfl rfl ?_ | refine t_loadN (us := [_, _, _, _, _]) ty34 rfl rfl rfl rfl rfl rfl ?_ | refine t_loadNc (us := [_, _, _, _, _]) ty34 rfl rfl rfl rfl rfl ?_
    first | refine t_buildSlice sli32 (Opds.ofL rfl) (.cons (.agg .rfl) (.cons (.agg .rfl) .nil)) (by intro x hx; simp only [List.mem_cons, List.not_mem_nil, or_false] at hx; rcases hx with rfl | rfl <;> rfl) rfl rfl rfl rfl ?_ | refine t_buildSlice sli32 (Opds.ofL rfl) (Elems.ofL rfl) (by intro x hx; simp only [List.mem_cons, List.not_mem_nil, or_false] at hx; rcases hx with rfl | rfl <;> rfl) rfl rfl rfl rfl ?_
    first | refine s_callF rfl .rfl (N_ev 3 [appT f (l.take i), l[i]] (by simp [bigTms]; omega)) rfl rfl ?_ | refine s_callF rfl (by (repeat' (first | exact VLes.rfl | exact VLes.nil | exact VLe.rfl | refine VLes.cons ?_ ?_ | exact VLe.own | exact VLe.full | exact VLe.nils | refine VLe.agg ?_ | exact VLe.fullE (dTms_one _) | exact VLe.fullE (dTms_two _ _) | exact VLe.fullE (dTms_three _ _ _) | exact VLe.fullE (dTys_one _) | exact VLe.fullE (dTys_two _ _) | exact VLe.fullE (dTys_three _ _ _)))) (N_ev 3 [appT f (l.take i), l[i]] (by simp [bigTms]; omega)) rfl rfl ?_
    first | refine s_storeW ty34 rfl rfl rfl rfl rfl rfl rfl ?_ | refine s_store (ws := [_, _, _, _, _]) ty34 rfl rfl rfl rfl rfl rfl rfl rfl ?_
    refine tr_nil ?_
    show _ ∧ Weak _ _ _
    refine ⟨trivial, ?_⟩
    rw [take_succ_of hg, appT_push]
    (refine weak_of ?_ ?_ rfl rfl rfl <;> (repeat' (first | exact trivial | refine ⟨⟨_, rfl, ?_⟩, ?_⟩ | exact OLe.rfl | refine OLe.cells ?_ | exact VLe.rfl | exact VLes.rfl | exact VLes.nil | refine VLes.cons ?_ ?_ | refine VLe.agg ?_ | refine VLe.tup ?_ | exact VLe.own | exact VLe.full | exact VLe.nils | exact VLe.any | exact VLe.clo | exact VLe.fn | refine VLe.intE ?_ | refine VLe.boolE ?_ | refine VLe.sliceE ?_ | refine VLe.ownE ?_ | refine VLe.ownO ?_ | refine VLe.fullE ?_ | refine VLe.nilsE ?_ | refine OLe.row ?_)))
  · skip
    change AC _ _ _ _ _
    refine ac_ts mixed ?_
    first | refine t_load ty34 rfl rfl rfl rfl rfl rfl ?_ | refine s_loadWc ty34 rfl rfl rfl rfl ?_ | refine t_loadN (us := [_, _, _, _, _]) ty34 rfl rfl rfl rfl rfl rfl ?_ | refine t_loadNc (us := [_, _, _, _, _]) ty34 rfl rfl rfl rfl rfl ?_
    first | refine s_storeW ty34 rfl rfl rfl rfl rfl rfl rfl ?_ | refine s_store (ws := [_, _, _, _, _]) ty34 rfl rfl rfl rfl rfl rfl rfl rfl ?_
    refine tr_nil ?_
    refine ac_ret ?_
    refine ⟨.inr rfl, _, ⟨_, _, _, _, _, rfl, rfl, rfl, .inl (retAgg ty34 rfl), rfl⟩, ?_, ?_⟩
    · rw [dTms_len, List.take_length]
      (repeat' (first | exact VLe.rfl | exact VLes.rfl | exact VLes.nil | refine VLes.cons ?_ ?_ | refine VLe.agg ?_ | refine VLe.tup ?_ | exact VLe.own | exact VLe.full | exact VLe.nils | exact VLe.any | exact VLe.clo | exact VLe.fn | refine VLe.intE ?_ | refine VLe.boolE ?_ | refine VLe.sliceE ?_ | refine VLe.ownE ?_ | refine VLe.ownO ?_ | refine VLe.fullE ?_ | refine VLe.nilsE ?_))
    · (intro l o h; cases h)
theorem Mod_ev (x n : Int) (hn : n ≠ 0) : Ev Tryd.prog GL 50 [.d (.int .i64 x), .d (.int .i64 n)] [] (.d (.int .i64 (md x n))) [] := by
  refine ev_of_body (N := 12) (ks := []) (ρ0 := [(0, _), (1, _)]) (σ0 := []) (rs := [.tmp 4]) Tryd.func50 rfl (by kernel_rfl) rfl rfl rfl rfl rfl rfl rfl rfl rfl rfl (fun E ι0 => ?_)
  refine ac_ts mixed ?_
  refine t_assign rfl rfl rfl ?_
  refine tr_nil ?_
  refine ac_ts mixed ?_
  refine t_move rfl rfl rfl ?_
  refine t_move rfl rfl rfl ?_
  refine t_bin rfl rfl (.rem hn) rfl rfl ?_
  refine t_move rfl rfl rfl ?_
  refine t_bin rfl rfl .add rfl rfl ?_
  refine t_move rfl rfl rfl ?_
  refine t_bin rfl rfl (.rem hn) rfl rfl ?_
  refine t_assign rfl rfl rfl ?_
  refine tr_nil ?_
  refine ac_ret ?_
  refine ⟨.inr rfl, _, ⟨_, _, rfl, rfl, rfl⟩, ?_, ?_⟩
  · (repeat' (first | exact VLe.rfl | exact VLes.rfl | exact VLes.nil | refine VLes.cons ?_ ?_ | refine VLe.agg ?_ | refine VLe.tup ?_ | exact VLe.own | exact VLe.full | exact VLe.nils | exact VLe.any | exact VLe.clo | exact VLe.fn | refine VLe.intE ?_ | refine VLe.boolE ?_ | refine VLe.sliceE ?_ | refine VLe.ownE ?_ | refine VLe.ownO ?_ | refine VLe.fullE ?_ | refine VLe.nilsE ?_))
  · (intro l o h; cases h)
theorem Few_ev (L : List Int) : Ev Tryd.prog GL 7 [.d (.slice (dInts L))] [] (.d (.bool (decide ((L.length : Int) ≤ 500)))) [] := by
  refine ev_of_body (N := 6) (ks := []) (ρ0 := [(0, _)]) (σ0 := []) (rs := [.tmp 2]) Tryd.func7 rfl (by kernel_rfl) rfl rfl rfl rfl rfl rfl rfl rfl rfl rfl (fun E ι0 => ?_)
  refine ac_ts mixed ?_
  refine t_assign rfl rfl rfl ?_
  refine tr_nil ?_
  refine ac_ts mixed ?_
  refine t_move rfl rfl rfl ?_
  refine t_len rfl sli22 rfl (by constructor) rfl rfl ?_
  refine t_bin rfl rfl .leq rfl rfl ?_
  refine t_assign rfl rfl rfl ?_
  refine tr_nil ?_
  refine ac_ret ?_
  refine ⟨.inr rfl, _, ⟨_, _, rfl, rfl, rfl⟩, ?_, ?_⟩
  · rw [dInts_len]
    (repeat' (first | exact VLe.rfl | exact VLes.rfl | exact VLes.nil | refine VLes.cons ?_ ?_ | refine VLe.agg ?_ | refine VLe.tup ?_ | exact VLe.own | exact VLe.full | exact VLe.nils | exact VLe.any | exact VLe.clo | exact VLe.fn | refine VLe.intE ?_ | refine VLe.boolE ?_ | refine VLe.sliceE ?_ | refine VLe.ownE ?_ | refine VLe.ownO ?_ | refine VLe.fullE ?_ | refine VLe.nilsE ?_))
  · (intro l o h; cases h)
theorem New_ev (L : List Int) : Ev Tryd.prog GL 8 [.d (.slice (dInts L))] [] (.ptr 1000 0) [(1000, .cells [.d (.slice (dInts L)), .d (.int .i64 (0 : Nat))] 55)] := by
  refine ev_of_body (N := 6) (ks := []) (ρ0 := [(0, _)]) (σ0 := []) (rs := [.tmp 2]) Tryd.func8 rfl (by kernel_rfl) rfl rfl rfl rfl rfl rfl rfl rfl rfl rfl (fun E ι0 => ?_)
  refine ac_ts mixed ?_
  refine t_assign rfl rfl rfl ?_
  refine tr_nil ?_
  refine ac_ts mixed ?_
  refine t_move rfl rfl rfl ?_
  refine s_build (res := [_, _]) zer55 plc55 rfl rfl rfl rfl rfl ?_
  refine s_box 1000 rfl rfl rfl rfl rfl ?_
  refine t_assign rfl rfl rfl ?_
  refine tr_nil ?_
  refine ac_ret ?_
  refine ⟨.inr rfl, _, ⟨_, _, rfl, rfl, rfl⟩, ?_, ?_⟩
  · (repeat' (first | exact VLe.rfl | exact VLes.rfl | exact VLes.nil | refine VLes.cons ?_ ?_ | refine VLe.agg ?_ | refine VLe.tup ?_ | exact VLe.own | exact VLe.full | exact VLe.nils | exact VLe.any | exact VLe.clo | exact VLe.fn | refine VLe.intE ?_ | refine VLe.boolE ?_ | refine VLe.sliceE ?_ | refine VLe.ownE ?_ | refine VLe.ownO ?_ | refine VLe.fullE ?_ | refine VLe.nilsE ?_))
  · (refine sigTo_at ?_; (repeat' (first | exact trivial | refine ⟨⟨_, rfl, ?_⟩, ?_⟩ | exact OLe.rfl | refine OLe.cells ?_ | exact VLe.rfl | exact VLes.rfl | exact VLes.nil | refine VLes.cons ?_ ?_ | exact VLe.any | exact VLe.own | exact VLe.full | exact VLe.clo | exact VLe.fn | refine VLe.intE ?_ | refine VLe.boolE ?_ | refine VLe.sliceE ?_ | refine VLe.ownE ?_ | refine VLe.fullE ?_ | refine VLe.nilsE ?_)))
theorem Next_ev (L : List Int) (hL : L.length ≤ 1000000) (n : Int) (a : Nat) (ha : a ≤ L.length) : Ev Tryd.prog GL 24 ([.ptr 1000 0, .d (.int .i64 n)] ++ []) [(1000, .cells [.d (.slice (dInts L)), .d (.int .i64 a)] 55)] (.d (.int .i64 (next L n a).1)) [(1000, .cells [.d (.slice (dInts L)), .d (.int .i64 (next L n a).2)] 55)] := by
  -- live at cond 0: t0, t1
  refine ev_of_body (N := 40) (ks := _) (ρ0 := [(0, _), (1, _)]) (σ0 := _) (rs := [.tmp 4]) Tryd.func24 rfl (by kernel_rfl) rfl rfl rfl rfl rfl rfl rfl rfl rfl rfl (fun E ι0 => ?_)
  refine ac_ts mixed ?_
  refine t_assign rfl rfl rfl ?_
  refine tr_nil ?_
  refine ac_seq ?_
  refine ac_ds mixed ?_
  refine t_move rfl rfl rfl ?_
  refine t_bin rfl rfl .lss rfl rfl ?_
  refine t_move rfl rfl rfl ?_
  refine tr_bool (fun h8 => ?_) (fun h8 => ?_)
  · refine t_skip ⟨_, rfl, .inl ⟨_, rfl, rfl⟩⟩ rfl ?_
    refine t_skip ⟨_, rfl, .inl ⟨_, rfl, rfl⟩⟩ rfl ?_
    refine t_skip ⟨_, rfl, .inl ⟨_, rfl, rfl⟩⟩ rfl ?_
    refine t_skip ⟨_, rfl, .inl ⟨_, rfl, rfl⟩⟩ rfl ?_
    refine t_skip ⟨_, rfl, .inl ⟨_, rfl, rfl⟩⟩ rfl ?_
    refine t_skip ⟨_, rfl, .inl ⟨_, rfl, rfl⟩⟩ rfl ?_
    refine t_skip ⟨_, rfl, .inl ⟨_, rfl, rfl⟩⟩ rfl ?_
    refine t_skip ⟨_, rfl, .inl ⟨_, rfl, rfl⟩⟩ rfl ?_
    refine t_skip ⟨_, rfl, .inl ⟨_, rfl, rfl⟩⟩ rfl ?_
    refine t_skip ⟨_, rfl, .inl ⟨_, rfl, rfl⟩⟩ rfl ?_
    refine t_pick_t rfl rfl rfl rfl rfl ?_
    refine tr_nil ⟨by kernel_rfl, ?_⟩
    refine ac_cond rfl (fun hb => ?_) (fun hb => by cases hb)
    refine ac_ts mixed ?_
    refine t_assign rfl rfl rfl ?_
    refine tr_nil ?_
    refine ac_ret ?_
    refine ⟨.inr rfl, _, ⟨_, _, rfl, rfl, rfl⟩, ?_, ?_⟩
    · have e : next L n a = (0, a) := by simp_all [next, dInts_len]
      rw [e]
      (repeat' (first | exact VLe.rfl | exact VLes.rfl | exact VLes.nil | refine VLes.cons ?_ ?_ | refine VLe.agg ?_ | refine VLe.tup ?_ | exact VLe.own | exact VLe.full | exact VLe.nils | exact VLe.any | exact VLe.clo | exact VLe.fn | refine VLe.intE ?_ | refine VLe.boolE ?_ | refine VLe.sliceE ?_ | refine VLe.ownE ?_ | refine VLe.ownO ?_ | refine VLe.fullE ?_ | refine VLe.nilsE ?_))
    · have e : next L n a = (0, a) := by simp_all [next, dInts_len]
      rw [e]
      (refine sigTo_at ?_; (repeat' (first | exact trivial | refine ⟨⟨_, rfl, ?_⟩, ?_⟩ | exact OLe.rfl | refine OLe.cells ?_ | exact VLe.rfl | exact VLes.rfl | exact VLes.nil | refine VLes.cons ?_ ?_ | exact VLe.any | exact VLe.own | exact VLe.full | exact VLe.clo | exact VLe.fn | refine VLe.intE ?_ | refine VLe.boolE ?_ | refine VLe.sliceE ?_ | refine VLe.ownE ?_ | refine VLe.fullE ?_ | refine VLe.nilsE ?_)))
  · refine t_move rfl ⟨_, rfl, .inl ⟨_, rfl, rfl⟩⟩ rfl ?_
    refine t_nilCheck rfl ⟨_, rfl, .inl ⟨_, rfl, rfl⟩⟩ rfl ?_
    first | refine t_fieldAddr fld55_1 rfl ⟨_, rfl, .inl ⟨_, rfl, rfl⟩⟩ rfl ?_ | refine t_fieldAddr_c fld55_1 rfl rfl ⟨_, rfl, .inl ⟨_, rfl, rfl⟩⟩ rfl rfl ?_
    first | refine t_load1 ty3 rfl rfl rfl ⟨_, rfl, .inl ⟨_, rfl, rfl⟩⟩ rfl ?_ | refine t_load1c ty3 rfl rfl ⟨_, rfl, .inl ⟨_, rfl, rfl⟩⟩ rfl ?_
    refine t_move rfl ⟨_, rfl, .inl ⟨_, rfl, rfl⟩⟩ rfl ?_
    refine t_nilCheck rfl ⟨_, rfl, .inl ⟨_, rfl, rfl⟩⟩ rfl ?_
    first | refine t_fieldAddr fld55_0 rfl ⟨_, rfl, .inl ⟨_, rfl, rfl⟩⟩ rfl ?_ | refine t_fieldAddr_c fld55_0 rfl rfl ⟨_, rfl, .inl ⟨_, rfl, rfl⟩⟩ rfl rfl ?_
    first | refine t_load1 ty22 rfl rfl rfl ⟨_, rfl, .inl ⟨_, rfl, rfl⟩⟩ rfl ?_ | refine t_load1c ty22 rfl rfl ⟨_, rfl, .inl ⟨_, rfl, rfl⟩⟩ rfl ?_
    refine t_len rfl sli22 rfl (by constructor) ⟨_, rfl, .inl ⟨_, rfl, rfl⟩⟩ rfl ?_
    refine t_bin rfl rfl .geq ⟨_, rfl, .inl ⟨_, rfl, rfl⟩⟩ rfl ?_
    refine t_pick_f rfl rfl rfl rfl rfl ?_
    refine tr_nil ⟨by kernel_rfl, ?_⟩
    refine ac_bool (fun hb0 => ?_) (fun hb0 => ?_)
    · refine ac_cond rfl (fun _ => ?_) (fun hb => by cases hb)
      refine ac_ts mixed ?_
      refine t_assign rfl rfl rfl ?_
      refine tr_nil ?_
      refine ac_ret ?_
      refine ⟨.inr rfl, _, ⟨_, _, rfl, rfl, rfl⟩, ?_, ?_⟩
      · have e : next L n a = (0, a) := by simp_all [next, dInts_len]
        rw [e]
        (repeat' (first | exact VLe.rfl | exact VLes.rfl | exact VLes.nil | refine VLes.cons ?_ ?_ | refine VLe.agg ?_ | refine VLe.tup ?_ | exact VLe.own | exact VLe.full | exact VLe.nils | exact VLe.any | exact VLe.clo | exact VLe.fn | refine VLe.intE ?_ | refine VLe.boolE ?_ | refine VLe.sliceE ?_ | refine VLe.ownE ?_ | refine VLe.ownO ?_ | refine VLe.fullE ?_ | refine VLe.nilsE ?_))
      · have e : next L n a = (0, a) := by simp_all [next, dInts_len]
        rw [e]
        (refine sigTo_at ?_; (repeat' (first | exact trivial | refine ⟨⟨_, rfl, ?_⟩, ?_⟩ | exact OLe.rfl | refine OLe.cells ?_ | exact VLe.rfl | exact VLes.rfl | exact VLes.nil | refine VLes.cons ?_ ?_ | exact VLe.any | exact VLe.own | exact VLe.full | exact VLe.clo | exact VLe.fn | refine VLe.intE ?_ | refine VLe.boolE ?_ | refine VLe.sliceE ?_ | refine VLe.ownE ?_ | refine VLe.fullE ?_ | refine VLe.nilsE ?_)))
    · refine ac_cond rfl (fun hb => by cases hb) (fun _ => ?_)
      have hlt : a < L.length := by simp [dInts_len] at hb0; omega
      have hn1 : ¬ n < 1 := by simpa using h8
      have hg : L[a]? = some L[a] := List.getElem?_eq_getElem hlt
      have hget := dInts_get hg
      have hc : (decide (n < 1) || decide ((a : Int) ≥ L.length)) = false := by simp; omega
      have e : next L n a = (md L[a] n, a + 1) := by unfold next; rw [hc, getD_at _ _ hlt]; rfl
      rw [e]
      refine ac_skip ?_
      change AC _ _ _ _ _
      refine ac_ds mixed ?_
      refine t_move rfl rfl rfl ?_
      refine t_nilCheck rfl rfl rfl ?_
      first | refine t_fieldAddr fld55_0 rfl rfl rfl ?_ | refine t_fieldAddr_c fld55_0 rfl rfl rfl rfl rfl ?_
      first | refine t_load1 ty22 rfl rfl rfl rfl rfl ?_ | refine t_load1c ty22 rfl rfl rfl rfl ?_
      refine t_move rfl rfl rfl ?_
      refine t_nilCheck rfl rfl rfl ?_
      first | refine t_fieldAddr fld55_1 rfl rfl rfl ?_ | refine t_fieldAddr_c fld55_1 rfl rfl rfl rfl rfl ?_
      first | refine t_load1 ty3 rfl rfl rfl rfl rfl ?_ | refine t_load1c ty3 rfl rfl rfl rfl ?_
      refine t_indexAddr sli22 rfl (by constructor) rfl (Int.natCast_nonneg _) hget rfl rfl rfl ?_
      first | refine t_load1 ty3 rfl rfl rfl rfl rfl ?_ | refine t_load1c ty3 rfl rfl rfl rfl ?_
      refine t_assign rfl rfl rfl ?_
      refine tr_nil ⟨by kernel_rfl, ?_⟩
      refine ac_ts mixed ?_
      refine t_move rfl rfl rfl ?_
      refine t_nilCheck rfl rfl rfl ?_
      first | refine t_fieldAddr fld55_1 rfl rfl rfl ?_ | refine t_fieldAddr_c fld55_1 rfl rfl rfl rfl rfl ?_
      first | refine t_load1 ty3 rfl rfl rfl rfl rfl ?_ | refine t_load1c ty3 rfl rfl rfl rfl ?_
      refine s_bin (r' := .int .i64 ((a + 1 : Nat) : Int)) rfl rfl .add (by rw [i64_id (by omega) (by omega)]; rfl) rfl rfl ?_
      refine t_nilCheck rfl rfl rfl ?_
      first | refine t_fieldAddr fld55_1 rfl rfl rfl ?_ | refine t_fieldAddr_c fld55_1 rfl rfl rfl rfl rfl ?_
      refine s_store (ws := [_, _]) ty3 rfl rfl rfl rfl rfl rfl rfl rfl ?_
      refine tr_nil ?_
      refine ac_ts mixed ?_
      refine t_move rfl rfl rfl ?_
      refine t_move rfl rfl rfl ?_
      first | refine s_callF rfl .rfl (Mod_ev _ _ (by omega)) rfl rfl ?_ | refine s_callF rfl (by (repeat' (first | exact VLes.rfl | exact VLes.nil | exact VLe.rfl | refine VLes.cons ?_ ?_ | exact VLe.own | exact VLe.full | exact VLe.nils | refine VLe.agg ?_ | exact VLe.fullE (dTms_one _) | exact VLe.fullE (dTms_two _ _) | exact VLe.fullE (dTms_three _ _ _) | exact VLe.fullE (dTys_one _) | exact VLe.fullE (dTys_two _ _) | exact VLe.fullE (dTys_three _ _ _)))) (Mod_ev _ _ (by omega)) rfl rfl ?_
      refine t_assign rfl rfl rfl ?_
      refine tr_nil ?_
      refine ac_ret ?_
      refine ⟨.inr rfl, _, ⟨_, _, rfl, rfl, rfl⟩, ?_, ?_⟩
      · (repeat' (first | exact VLe.rfl | exact VLes.rfl | exact VLes.nil | refine VLes.cons ?_ ?_ | refine VLe.agg ?_ | refine VLe.tup ?_ | exact VLe.own | exact VLe.full | exact VLe.nils | exact VLe.any | exact VLe.clo | exact VLe.fn | refine VLe.intE ?_ | refine VLe.boolE ?_ | refine VLe.sliceE ?_ | refine VLe.ownE ?_ | refine VLe.ownO ?_ | refine VLe.fullE ?_ | refine VLe.nilsE ?_))
      · (refine sigTo_at ?_; (repeat' (first | exact trivial | refine ⟨⟨_, rfl, ?_⟩, ?_⟩ | exact OLe.rfl | refine OLe.cells ?_ | exact VLe.rfl | exact VLes.rfl | exact VLes.nil | refine VLes.cons ?_ ?_ | exact VLe.any | exact VLe.own | exact VLe.full | exact VLe.clo | exact VLe.fn | refine VLe.intE ?_ | refine VLe.boolE ?_ | refine VLe.sliceE ?_ | refine VLe.ownE ?_ | refine VLe.fullE ?_ | refine VLe.nilsE ?_)))
theorem Type0_ev (L : List Int) (hL : L.length ≤ 1000000) (a : Nat) (ha : a ≤ L.length) : Ev Tryd.prog GL 10 ([.ptr 1000 0, .d (.int .i64 0)] ++ []) [(1000, .cells [.d (.slice (dInts L)), .d (.int .i64 a)] 55)] (vTy (mkType L 0 a).1) [(1000, .cells [.d (.slice (dInts L)), .d (.int .i64 (mkType L 0 a).2)] 55)] := by
  -- live at block 0: t4(ptr)
  -- live at cond 0: t0, t1, t4(ptr), t6, t7
  -- live at cond 1: t0, t1, t4(ptr), t6, t7
  -- live at cond 2: t4(ptr)
  -- live at cond 3: t4(ptr)
  -- live at cond 4: t4(ptr)
  -- live at cond 5: t4(ptr)
  -- live at cond 6: t4(ptr)
  -- live at cond 7: t4(ptr)
  -- live at cond 8: t4(ptr)
  refine ev_of_body (N := 45) (ks := _) (ρ0 := [(0, _), (1, _)]) (σ0 := _) (rs := [.cell 4 30]) Tryd.func10 rfl (by kernel_rfl) rfl rfl rfl rfl rfl rfl rfl rfl rfl rfl (fun E ι0 => ?_)
  refine ac_ts mixed ?_
  refine s_alloc 4 zer30 rfl rfl rfl rfl ?_
  refine tr_nil ?_
  refine ac_seq ?_
  refine ac_ts mixed ?_
  refine t_move rfl rfl rfl ?_
  first | refine s_callSF rfl .rfl (Next_ev L hL 7 a ha) rfl rfl rfl rfl rfl ?_ | refine s_callSF rfl (by (repeat' (first | exact VLes.rfl | exact VLes.nil | exact VLe.rfl | refine VLes.cons ?_ ?_ | exact VLe.own | exact VLe.full | exact VLe.nils | refine VLe.agg ?_ | exact VLe.fullE (dTms_one _) | exact VLe.fullE (dTms_two _ _) | exact VLe.fullE (dTms_three _ _ _) | exact VLe.fullE (dTys_one _) | exact VLe.fullE (dTys_two _ _) | exact VLe.fullE (dTys_three _ _ _)))) (Next_ev L hL 7 a ha) rfl rfl rfl rfl rfl ?_
  refine tr_nil ?_
  refine ac_block ?_
  refine ac_seq ?_
  refine ac_ts mixed ?_
  refine t_bin rfl rfl .eql rfl rfl ?_
  refine t_assign rfl rfl rfl ?_
  refine tr_nil ?_
  refine ac_bool (fun hb0 => ?_) (fun hb0 => ?_)
  · refine ac_cond rfl (fun _ => ?_) (fun hb => by cases hb)
    refine ac_skip ?_
    change AC _ _ _ _ _
    refine ac_cond rfl (fun hb => ?_) (fun hb => by cases hb)
    refine ac_ts mixed ?_
    first | refine s_callF rfl .rfl (r1_Nat_ev) rfl rfl ?_ | refine s_callF rfl (by (repeat' (first | exact VLes.rfl | exact VLes.nil | exact VLe.rfl | refine VLes.cons ?_ ?_ | exact VLe.own | exact VLe.full | exact VLe.nils | refine VLe.agg ?_ | exact VLe.fullE (dTms_one _) | exact VLe.fullE (dTms_two _ _) | exact VLe.fullE (dTms_three _ _ _) | exact VLe.fullE (dTys_one _) | exact VLe.fullE (dTys_two _ _) | exact VLe.fullE (dTys_three _ _ _)))) (r1_Nat_ev) rfl rfl ?_
    first | refine s_storeW ty30 rfl rfl rfl rfl rfl rfl rfl ?_ | refine s_store (ws := [_, _]) ty30 rfl rfl rfl rfl rfl rfl rfl rfl ?_
    refine tr_nil ?_
    refine ac_ret ?_
    refine ⟨.inr rfl, _, ⟨_, _, _, _, _, rfl, rfl, rfl, .inl (retAgg ty30 rfl), rfl⟩, ?_, ?_⟩
    · rw [show mkType L 0 a = (.nat, (next L 7 a).2) by simp_all [mkType]]
      (repeat' (first | exact VLe.rfl | exact VLes.rfl | exact VLes.nil | refine VLes.cons ?_ ?_ | refine VLe.agg ?_ | refine VLe.tup ?_ | exact VLe.own | exact VLe.full | exact VLe.nils | exact VLe.any | exact VLe.clo | exact VLe.fn | refine VLe.intE ?_ | refine VLe.boolE ?_ | refine VLe.sliceE ?_ | refine VLe.ownE ?_ | refine VLe.ownO ?_ | refine VLe.fullE ?_ | refine VLe.nilsE ?_))
    · rw [show mkType L 0 a = (.nat, (next L 7 a).2) by simp_all [mkType]]
      (refine sigTo_at ?_; (repeat' (first | exact trivial | refine ⟨⟨_, rfl, ?_⟩, ?_⟩ | exact OLe.rfl | refine OLe.cells ?_ | exact VLe.rfl | exact VLes.rfl | exact VLes.nil | refine VLes.cons ?_ ?_ | exact VLe.any | exact VLe.own | exact VLe.full | exact VLe.clo | exact VLe.fn | refine VLe.intE ?_ | refine VLe.boolE ?_ | refine VLe.sliceE ?_ | refine VLe.ownE ?_ | refine VLe.fullE ?_ | refine VLe.nilsE ?_)))
  · refine ac_cond rfl (fun hb => by cases hb) (fun _ => ?_)
    refine ac_ts mixed ?_
    refine t_bin rfl rfl .eql rfl rfl ?_
    refine t_assign rfl rfl rfl ?_
    refine tr_nil ?_
    refine ac_bool (fun hb1 => ?_) (fun hb1 => ?_)
    · refine ac_cond rfl (fun _ => ?_) (fun hb => by cases hb)
      refine ac_skip ?_
      change AC _ _ _ _ _
      refine ac_cond rfl (fun hb => ?_) (fun hb => by cases hb)
      refine ac_ts mixed ?_
      first | refine s_callF rfl .rfl (r1_Nat_ev) rfl rfl ?_ | refine s_callF rfl (by (repeat' (first | exact VLes.rfl | exact VLes.nil | exact VLe.rfl | refine VLes.cons ?_ ?_ | exact VLe.own | exact VLe.full | exact VLe.nils | refine VLe.agg ?_ | exact VLe.fullE (dTms_one _) | exact VLe.fullE (dTms_two _ _) | exact VLe.fullE (dTms_three _ _ _) | exact VLe.fullE (dTys_one _) | exact VLe.fullE (dTys_two _ _) | exact VLe.fullE (dTys_three _ _ _)))) (r1_Nat_ev) rfl rfl ?_
      first | refine s_storeW ty30 rfl rfl rfl rfl rfl rfl rfl ?_ | refine s_store (ws := [_, _]) ty30 rfl rfl rfl rfl rfl rfl rfl rfl ?_
      refine tr_nil ?_
      refine ac_ret ?_
      refine ⟨.inr rfl, _, ⟨_, _, _, _, _, rfl, rfl, rfl, .inl (retAgg ty30 rfl), rfl⟩, ?_, ?_⟩
      · rw [show mkType L 0 a = (.nat, (next L 7 a).2) by simp_all [mkType]]
        (repeat' (first | exact VLe.rfl | exact VLes.rfl | exact VLes.nil | refine VLes.cons ?_ ?_ | refine VLe.agg ?_ | refine VLe.tup ?_ | exact VLe.own | exact VLe.full | exact VLe.nils | exact VLe.any | exact VLe.clo | exact VLe.fn | refine VLe.intE ?_ | refine VLe.boolE ?_ | refine VLe.sliceE ?_ | refine VLe.ownE ?_ | refine VLe.ownO ?_ | refine VLe.fullE ?_ | refine VLe.nilsE ?_))
      · rw [show mkType L 0 a = (.nat, (next L 7 a).2) by simp_all [mkType]]
        (refine sigTo_at ?_; (repeat' (first | exact trivial | refine ⟨⟨_, rfl, ?_⟩, ?_⟩ | exact OLe.rfl | refine OLe.cells ?_ | exact VLe.rfl | exact VLes.rfl | exact VLes.nil | refine VLes.cons ?_ ?_ | exact VLe.any | exact VLe.own | exact VLe.full | exact VLe.clo | exact VLe.fn | refine VLe.intE ?_ | refine VLe.boolE ?_ | refine VLe.sliceE ?_ | refine VLe.ownE ?_ | refine VLe.fullE ?_ | refine VLe.nilsE ?_)))
    · refine ac_cond rfl (fun hb => by cases hb) (fun _ => ?_)
      refine ac_t mixed ?_
      refine t_bin rfl rfl .eql rfl rfl ?_
      refine t_assign rfl rfl rfl ?_
      refine tr_nil ?_
      change AC _ _ _ _ _
      refine ac_bool (fun hb2 => ?_) (fun hb2 => ?_)
      · refine ac_cond rfl (fun _ => ?_) (fun hb => by cases hb)
        refine ac_ts mixed ?_
        first | refine s_callF rfl .rfl (r1_Nat_ev) rfl rfl ?_ | refine s_callF rfl (by (repeat' (first | exact VLes.rfl | exact VLes.nil | exact VLe.rfl | refine VLes.cons ?_ ?_ | exact VLe.own | exact VLe.full | exact VLe.nils | refine VLe.agg ?_ | exact VLe.fullE (dTms_one _) | exact VLe.fullE (dTms_two _ _) | exact VLe.fullE (dTms_three _ _ _) | exact VLe.fullE (dTys_one _) | exact VLe.fullE (dTys_two _ _) | exact VLe.fullE (dTys_three _ _ _)))) (r1_Nat_ev) rfl rfl ?_
        first | refine s_storeW ty30 rfl rfl rfl rfl rfl rfl rfl ?_ | refine s_store (ws := [_, _]) ty30 rfl rfl rfl rfl rfl rfl rfl rfl ?_
        refine tr_nil ?_
        refine ac_ret ?_
        refine ⟨.inr rfl, _, ⟨_, _, _, _, _, rfl, rfl, rfl, .inl (retAgg ty30 rfl), rfl⟩, ?_, ?_⟩
        · rw [show mkType L 0 a = (.nat, (next L 7 a).2) by simp_all [mkType]]
          (repeat' (first | exact VLe.rfl | exact VLes.rfl | exact VLes.nil | refine VLes.cons ?_ ?_ | refine VLe.agg ?_ | refine VLe.tup ?_ | exact VLe.own | exact VLe.full | exact VLe.nils | exact VLe.any | exact VLe.clo | exact VLe.fn | refine VLe.intE ?_ | refine VLe.boolE ?_ | refine VLe.sliceE ?_ | refine VLe.ownE ?_ | refine VLe.ownO ?_ | refine VLe.fullE ?_ | refine VLe.nilsE ?_))
        · rw [show mkType L 0 a = (.nat, (next L 7 a).2) by simp_all [mkType]]
          (refine sigTo_at ?_; (repeat' (first | exact trivial | refine ⟨⟨_, rfl, ?_⟩, ?_⟩ | exact OLe.rfl | refine OLe.cells ?_ | exact VLe.rfl | exact VLes.rfl | exact VLes.nil | refine VLes.cons ?_ ?_ | exact VLe.any | exact VLe.own | exact VLe.full | exact VLe.clo | exact VLe.fn | refine VLe.intE ?_ | refine VLe.boolE ?_ | refine VLe.sliceE ?_ | refine VLe.ownE ?_ | refine VLe.fullE ?_ | refine VLe.nilsE ?_)))
      · refine ac_cond rfl (fun hb => by cases hb) (fun _ => ?_)
        refine ac_ts mixed ?_
        refine t_bin rfl rfl .eql rfl rfl ?_
        refine t_assign rfl rfl rfl ?_
        refine tr_nil ?_
        refine ac_bool (fun hb3 => ?_) (fun hb3 => ?_)
        · refine ac_cond rfl (fun _ => ?_) (fun hb => by cases hb)
          refine ac_ts mixed ?_
          first | refine s_callF rfl .rfl (r1_List_ev) rfl rfl ?_ | refine s_callF rfl (by (repeat' (first | exact VLes.rfl | exact VLes.nil | exact VLe.rfl | refine VLes.cons ?_ ?_ | exact VLe.own | exact VLe.full | exact VLe.nils | refine VLe.agg ?_ | exact VLe.fullE (dTms_one _) | exact VLe.fullE (dTms_two _ _) | exact VLe.fullE (dTms_three _ _ _) | exact VLe.fullE (dTys_one _) | exact VLe.fullE (dTys_two _ _) | exact VLe.fullE (dTys_three _ _ _)))) (r1_List_ev) rfl rfl ?_
          first | refine s_storeW ty30 rfl rfl rfl rfl rfl rfl rfl ?_ | refine s_store (ws := [_, _]) ty30 rfl rfl rfl rfl rfl rfl rfl rfl ?_
          refine tr_nil ?_
          refine ac_ret ?_
          refine ⟨.inr rfl, _, ⟨_, _, _, _, _, rfl, rfl, rfl, .inl (retAgg ty30 rfl), rfl⟩, ?_, ?_⟩
          · rw [show mkType L 0 a = (.list, (next L 7 a).2) by simp_all [mkType]]
            (repeat' (first | exact VLe.rfl | exact VLes.rfl | exact VLes.nil | refine VLes.cons ?_ ?_ | refine VLe.agg ?_ | refine VLe.tup ?_ | exact VLe.own | exact VLe.full | exact VLe.nils | exact VLe.any | exact VLe.clo | exact VLe.fn | refine VLe.intE ?_ | refine VLe.boolE ?_ | refine VLe.sliceE ?_ | refine VLe.ownE ?_ | refine VLe.ownO ?_ | refine VLe.fullE ?_ | refine VLe.nilsE ?_))
          · rw [show mkType L 0 a = (.list, (next L 7 a).2) by simp_all [mkType]]
            (refine sigTo_at ?_; (repeat' (first | exact trivial | refine ⟨⟨_, rfl, ?_⟩, ?_⟩ | exact OLe.rfl | refine OLe.cells ?_ | exact VLe.rfl | exact VLes.rfl | exact VLes.nil | refine VLes.cons ?_ ?_ | exact VLe.any | exact VLe.own | exact VLe.full | exact VLe.clo | exact VLe.fn | refine VLe.intE ?_ | refine VLe.boolE ?_ | refine VLe.sliceE ?_ | refine VLe.ownE ?_ | refine VLe.fullE ?_ | refine VLe.nilsE ?_)))
        · refine ac_cond rfl (fun hb => by cases hb) (fun _ => ?_)
          refine ac_ts mixed ?_
          refine t_bin rfl rfl .eql rfl rfl ?_
          refine t_assign rfl rfl rfl ?_
          refine tr_nil ?_
          refine ac_bool (fun hb4 => ?_) (fun hb4 => ?_)
          · refine ac_cond rfl (fun _ => ?_) (fun hb => by cases hb)
            refine ac_ts mixed ?_
            first | refine s_callF rfl .rfl (r1_Unit_ev) rfl rfl ?_ | refine s_callF rfl (by (repeat' (first | exact VLes.rfl | exact VLes.nil | exact VLe.rfl | refine VLes.cons ?_ ?_ | exact VLe.own | exact VLe.full | exact VLe.nils | refine VLe.agg ?_ | exact VLe.fullE (dTms_one _) | exact VLe.fullE (dTms_two _ _) | exact VLe.fullE (dTms_three _ _ _) | exact VLe.fullE (dTys_one _) | exact VLe.fullE (dTys_two _ _) | exact VLe.fullE (dTys_three _ _ _)))) (r1_Unit_ev) rfl rfl ?_
            first | refine s_storeW ty30 rfl rfl rfl rfl rfl rfl rfl ?_ | refine s_store (ws := [_, _]) ty30 rfl rfl rfl rfl rfl rfl rfl rfl ?_
            refine tr_nil ?_
            refine ac_ret ?_
            refine ⟨.inr rfl, _, ⟨_, _, _, _, _, rfl, rfl, rfl, .inl (retAgg ty30 rfl), rfl⟩, ?_, ?_⟩
            · rw [show mkType L 0 a = (.unit, (next L 7 a).2) by simp_all [mkType]]
              (repeat' (first | exact VLe.rfl | exact VLes.rfl | exact VLes.nil | refine VLes.cons ?_ ?_ | refine VLe.agg ?_ | refine VLe.tup ?_ | exact VLe.own | exact VLe.full | exact VLe.nils | exact VLe.any | exact VLe.clo | exact VLe.fn | refine VLe.intE ?_ | refine VLe.boolE ?_ | refine VLe.sliceE ?_ | refine VLe.ownE ?_ | refine VLe.ownO ?_ | refine VLe.fullE ?_ | refine VLe.nilsE ?_))
            · rw [show mkType L 0 a = (.unit, (next L 7 a).2) by simp_all [mkType]]
              (refine sigTo_at ?_; (repeat' (first | exact trivial | refine ⟨⟨_, rfl, ?_⟩, ?_⟩ | exact OLe.rfl | refine OLe.cells ?_ | exact VLe.rfl | exact VLes.rfl | exact VLes.nil | refine VLes.cons ?_ ?_ | exact VLe.any | exact VLe.own | exact VLe.full | exact VLe.clo | exact VLe.fn | refine VLe.intE ?_ | refine VLe.boolE ?_ | refine VLe.sliceE ?_ | refine VLe.ownE ?_ | refine VLe.fullE ?_ | refine VLe.nilsE ?_)))
          · refine ac_cond rfl (fun hb => by cases hb) (fun _ => ?_)
            refine ac_ts mixed ?_
            refine t_bin rfl rfl .eql rfl rfl ?_
            refine t_assign rfl rfl rfl ?_
            refine tr_nil ?_
            refine ac_bool (fun hb5 => ?_) (fun hb5 => ?_)
            · refine ac_cond rfl (fun _ => ?_) (fun hb => by cases hb)
              refine ac_ts mixed ?_
              refine t_move rfl rfl rfl ?_
              refine t_bin rfl rfl .gtr rfl rfl ?_
              refine tr_nil ?_
              refine ac_cond rfl (fun hb => by simp at hb) (fun hb => ?_)
              refine ac_skip ?_
              change AC _ _ _ _ _
              refine ac_ts mixed ?_
              first | refine s_callF rfl .rfl (r1_Nat_ev) rfl rfl ?_ | refine s_callF rfl (by (repeat' (first | exact VLes.rfl | exact VLes.nil | exact VLe.rfl | refine VLes.cons ?_ ?_ | exact VLe.own | exact VLe.full | exact VLe.nils | refine VLe.agg ?_ | exact VLe.fullE (dTms_one _) | exact VLe.fullE (dTms_two _ _) | exact VLe.fullE (dTms_three _ _ _) | exact VLe.fullE (dTys_one _) | exact VLe.fullE (dTys_two _ _) | exact VLe.fullE (dTys_three _ _ _)))) (r1_Nat_ev) rfl rfl ?_
              first | refine s_storeW ty30 rfl rfl rfl rfl rfl rfl rfl ?_ | refine s_store (ws := [_, _]) ty30 rfl rfl rfl rfl rfl rfl rfl rfl ?_
              refine tr_nil ?_
              refine ac_ret ?_
              refine ⟨.inr rfl, _, ⟨_, _, _, _, _, rfl, rfl, rfl, .inl (retAgg ty30 rfl), rfl⟩, ?_, ?_⟩
              · rw [show mkType L 0 a = (.nat, (next L 7 a).2) by simp_all [mkType]]
                (repeat' (first | exact VLe.rfl | exact VLes.rfl | exact VLes.nil | refine VLes.cons ?_ ?_ | refine VLe.agg ?_ | refine VLe.tup ?_ | exact VLe.own | exact VLe.full | exact VLe.nils | exact VLe.any | exact VLe.clo | exact VLe.fn | refine VLe.intE ?_ | refine VLe.boolE ?_ | refine VLe.sliceE ?_ | refine VLe.ownE ?_ | refine VLe.ownO ?_ | refine VLe.fullE ?_ | refine VLe.nilsE ?_))
              · rw [show mkType L 0 a = (.nat, (next L 7 a).2) by simp_all [mkType]]
                (refine sigTo_at ?_; (repeat' (first | exact trivial | refine ⟨⟨_, rfl, ?_⟩, ?_⟩ | exact OLe.rfl | refine OLe.cells ?_ | exact VLe.rfl | exact VLes.rfl | exact VLes.nil | refine VLes.cons ?_ ?_ | exact VLe.any | exact VLe.own | exact VLe.full | exact VLe.clo | exact VLe.fn | refine VLe.intE ?_ | refine VLe.boolE ?_ | refine VLe.sliceE ?_ | refine VLe.ownE ?_ | refine VLe.fullE ?_ | refine VLe.nilsE ?_)))
            · refine ac_cond rfl (fun hb => by cases hb) (fun _ => ?_)
              refine ac_ts mixed ?_
              refine t_bin rfl rfl .eql rfl rfl ?_
              refine t_assign rfl rfl rfl ?_
              refine tr_nil ?_
              refine ac_bool (fun hb7 => ?_) (fun hb7 => ?_)
              · refine ac_cond rfl (fun _ => ?_) (fun hb => by cases hb)
                refine ac_ts mixed ?_
                refine t_move rfl rfl rfl ?_
                refine t_bin rfl rfl .gtr rfl rfl ?_
                refine tr_nil ?_
                refine ac_cond rfl (fun hb => by simp at hb) (fun hb => ?_)
                refine ac_skip ?_
                change AC _ _ _ _ _
                refine ac_ts mixed ?_
                first | refine s_callF rfl .rfl (r1_Nat_ev) rfl rfl ?_ | refine s_callF rfl (by (repeat' (first | exact VLes.rfl | exact VLes.nil | exact VLe.rfl | refine VLes.cons ?_ ?_ | exact VLe.own | exact VLe.full | exact VLe.nils | refine VLe.agg ?_ | exact VLe.fullE (dTms_one _) | exact VLe.fullE (dTms_two _ _) | exact VLe.fullE (dTms_three _ _ _) | exact VLe.fullE (dTys_one _) | exact VLe.fullE (dTys_two _ _) | exact VLe.fullE (dTys_three _ _ _)))) (r1_Nat_ev) rfl rfl ?_
                first | refine s_storeW ty30 rfl rfl rfl rfl rfl rfl rfl ?_ | refine s_store (ws := [_, _]) ty30 rfl rfl rfl rfl rfl rfl rfl rfl ?_
                refine tr_nil ?_
                refine ac_ret ?_
                refine ⟨.inr rfl, _, ⟨_, _, _, _, _, rfl, rfl, rfl, .inl (retAgg ty30 rfl), rfl⟩, ?_, ?_⟩
                · rw [show mkType L 0 a = (.nat, (next L 7 a).2) by simp_all [mkType]]
                  (repeat' (first | exact VLe.rfl | exact VLes.rfl | exact VLes.nil | refine VLes.cons ?_ ?_ | refine VLe.agg ?_ | refine VLe.tup ?_ | exact VLe.own | exact VLe.full | exact VLe.nils | exact VLe.any | exact VLe.clo | exact VLe.fn | refine VLe.intE ?_ | refine VLe.boolE ?_ | refine VLe.sliceE ?_ | refine VLe.ownE ?_ | refine VLe.ownO ?_ | refine VLe.fullE ?_ | refine VLe.nilsE ?_))
                · rw [show mkType L 0 a = (.nat, (next L 7 a).2) by simp_all [mkType]]
                  (refine sigTo_at ?_; (repeat' (first | exact trivial | refine ⟨⟨_, rfl, ?_⟩, ?_⟩ | exact OLe.rfl | refine OLe.cells ?_ | exact VLe.rfl | exact VLes.rfl | exact VLes.nil | refine VLes.cons ?_ ?_ | exact VLe.any | exact VLe.own | exact VLe.full | exact VLe.clo | exact VLe.fn | refine VLe.intE ?_ | refine VLe.boolE ?_ | refine VLe.sliceE ?_ | refine VLe.ownE ?_ | refine VLe.fullE ?_ | refine VLe.nilsE ?_)))
              · refine ac_cond rfl (fun hb => by cases hb) (fun _ => ?_)
                refine ac_skip ?_
                change AC _ _ _ _ _
                refine ac_ts mixed ?_
                first | refine s_callF rfl .rfl (r1_Nat_ev) rfl rfl ?_ | refine s_callF rfl (by (repeat' (first | exact VLes.rfl | exact VLes.nil | exact VLe.rfl | refine VLes.cons ?_ ?_ | exact VLe.own | exact VLe.full | exact VLe.nils | refine VLe.agg ?_ | exact VLe.fullE (dTms_one _) | exact VLe.fullE (dTms_two _ _) | exact VLe.fullE (dTms_three _ _ _) | exact VLe.fullE (dTys_one _) | exact VLe.fullE (dTys_two _ _) | exact VLe.fullE (dTys_three _ _ _)))) (r1_Nat_ev) rfl rfl ?_
                first | refine s_storeW ty30 rfl rfl rfl rfl rfl rfl rfl ?_ | refine s_store (ws := [_, _]) ty30 rfl rfl rfl rfl rfl rfl rfl rfl ?_
                refine tr_nil ?_
                refine ac_ret ?_
                refine ⟨.inr rfl, _, ⟨_, _, _, _, _, rfl, rfl, rfl, .inl (retAgg ty30 rfl), rfl⟩, ?_, ?_⟩
                · rw [show mkType L 0 a = (.nat, (next L 7 a).2) by simp_all [mkType]]
                  (repeat' (first | exact VLe.rfl | exact VLes.rfl | exact VLes.nil | refine VLes.cons ?_ ?_ | refine VLe.agg ?_ | refine VLe.tup ?_ | exact VLe.own | exact VLe.full | exact VLe.nils | exact VLe.any | exact VLe.clo | exact VLe.fn | refine VLe.intE ?_ | refine VLe.boolE ?_ | refine VLe.sliceE ?_ | refine VLe.ownE ?_ | refine VLe.ownO ?_ | refine VLe.fullE ?_ | refine VLe.nilsE ?_))
                · rw [show mkType L 0 a = (.nat, (next L 7 a).2) by simp_all [mkType]]
                  (refine sigTo_at ?_; (repeat' (first | exact trivial | refine ⟨⟨_, rfl, ?_⟩, ?_⟩ | exact OLe.rfl | refine OLe.cells ?_ | exact VLe.rfl | exact VLes.rfl | exact VLes.nil | refine VLes.cons ?_ ?_ | exact VLe.any | exact VLe.own | exact VLe.full | exact VLe.clo | exact VLe.fn | refine VLe.intE ?_ | refine VLe.boolE ?_ | refine VLe.sliceE ?_ | refine VLe.ownE ?_ | refine VLe.fullE ?_ | refine VLe.nilsE ?_)))
theorem Type_ev (L : List Int) (hL : L.length ≤ 1000000) (d : Nat) : ∀ (hd : d ≤ 5) (a : Nat) (ha : a ≤ L.length), Ev Tryd.prog GL 10 ([.ptr 1000 0, .d (.int .i64 d)] ++ []) [(1000, .cells [.d (.slice (dInts L)), .d (.int .i64 a)] 55)] (vTy (mkType L d a).1) [(1000, .cells [.d (.slice (dInts L)), .d (.int .i64 (mkType L d a).2)] 55)] := by
  induction d with
  | zero => exact fun _ a ha => Type0_ev L hL a ha
  | succ d ih =>
  intro hd a ha
  have ha1 := next_at L 7 ha
  have ha2 := mkType_at L d ha1
  have hz1 := fun a => mkType_szd L d (by omega) a
  have hdd : IntKind.i64.wrap (((d + 1 : Nat) : Int) - 1) = (d : Int) := by rw [i64_id (by omega) (by omega)]; omega
  have hpos : decide (((d + 1 : Nat) : Int) > 0) = true := by simp
  -- live at block 0: t4(ptr)
  -- live at cond 0: t0, t1, t4(ptr), t6, t7
  -- live at cond 1: t0, t1, t4(ptr), t6, t7
  -- live at cond 2: t4(ptr)
  -- live at cond 3: t4(ptr)
  -- live at cond 4: t4(ptr)
  -- live at cond 5: t4(ptr)
  -- live at cond 6: t4(ptr)
  -- live at cond 7: t4(ptr)
  -- live at cond 8: t4(ptr)
  refine ev_of_body (N := 45) (ks := _) (ρ0 := [(0, _), (1, _)]) (σ0 := _) (rs := [.cell 4 30]) Tryd.func10 rfl (by kernel_rfl) rfl rfl rfl rfl rfl rfl rfl rfl rfl rfl (fun E ι0 => ?_)
  refine ac_ts mixed ?_
  refine s_alloc 4 zer30 rfl rfl rfl rfl ?_
  refine tr_nil ?_
  refine ac_seq ?_
  refine ac_ts mixed ?_
  refine t_move rfl rfl rfl ?_
  first | refine s_callSF rfl .rfl (Next_ev L hL 7 a ha) rfl rfl rfl rfl rfl ?_ | refine s_callSF rfl (by (repeat' (first | exact VLes.rfl | exact VLes.nil | exact VLe.rfl | refine VLes.cons ?_ ?_ | exact VLe.own | exact VLe.full | exact VLe.nils | refine VLe.agg ?_ | exact VLe.fullE (dTms_one _) | exact VLe.fullE (dTms_two _ _) | exact VLe.fullE (dTms_three _ _ _) | exact VLe.fullE (dTys_one _) | exact VLe.fullE (dTys_two _ _) | exact VLe.fullE (dTys_three _ _ _)))) (Next_ev L hL 7 a ha) rfl rfl rfl rfl rfl ?_
  refine tr_nil ?_
  refine ac_block ?_
  refine ac_seq ?_
  refine ac_ts mixed ?_
  refine t_bin rfl rfl .eql rfl rfl ?_
  refine t_assign rfl rfl rfl ?_
  refine tr_nil ?_
  refine ac_bool (fun hb0 => ?_) (fun hb0 => ?_)
  · refine ac_cond rfl (fun _ => ?_) (fun hb => by cases hb)
    refine ac_skip ?_
    change AC _ _ _ _ _
    refine ac_cond rfl (fun hb => ?_) (fun hb => by cases hb)
    refine ac_ts mixed ?_
    first | refine s_callF rfl .rfl (r1_Nat_ev) rfl rfl ?_ | refine s_callF rfl (by (repeat' (first | exact VLes.rfl | exact VLes.nil | exact VLe.rfl | refine VLes.cons ?_ ?_ | exact VLe.own | exact VLe.full | exact VLe.nils | refine VLe.agg ?_ | exact VLe.fullE (dTms_one _) | exact VLe.fullE (dTms_two _ _) | exact VLe.fullE (dTms_three _ _ _) | exact VLe.fullE (dTys_one _) | exact VLe.fullE (dTys_two _ _) | exact VLe.fullE (dTys_three _ _ _)))) (r1_Nat_ev) rfl rfl ?_
    first | refine s_storeW ty30 rfl rfl rfl rfl rfl rfl rfl ?_ | refine s_store (ws := [_, _]) ty30 rfl rfl rfl rfl rfl rfl rfl rfl ?_
    refine tr_nil ?_
    refine ac_ret ?_
    refine ⟨.inr rfl, _, ⟨_, _, _, _, _, rfl, rfl, rfl, .inl (retAgg ty30 rfl), rfl⟩, ?_, ?_⟩
    · rw [show mkType L (d + 1) a = (.nat, (next L 7 a).2) by simp_all [mkType]]
      (repeat' (first | exact VLe.rfl | exact VLes.rfl | exact VLes.nil | refine VLes.cons ?_ ?_ | refine VLe.agg ?_ | refine VLe.tup ?_ | exact VLe.own | exact VLe.full | exact VLe.nils | exact VLe.any | exact VLe.clo | exact VLe.fn | refine VLe.intE ?_ | refine VLe.boolE ?_ | refine VLe.sliceE ?_ | refine VLe.ownE ?_ | refine VLe.ownO ?_ | refine VLe.fullE ?_ | refine VLe.nilsE ?_))
    · rw [show mkType L (d + 1) a = (.nat, (next L 7 a).2) by simp_all [mkType]]
      (refine sigTo_at ?_; (repeat' (first | exact trivial | refine ⟨⟨_, rfl, ?_⟩, ?_⟩ | exact OLe.rfl | refine OLe.cells ?_ | exact VLe.rfl | exact VLes.rfl | exact VLes.nil | refine VLes.cons ?_ ?_ | exact VLe.any | exact VLe.own | exact VLe.full | exact VLe.clo | exact VLe.fn | refine VLe.intE ?_ | refine VLe.boolE ?_ | refine VLe.sliceE ?_ | refine VLe.ownE ?_ | refine VLe.fullE ?_ | refine VLe.nilsE ?_)))
  · refine ac_cond rfl (fun hb => by cases hb) (fun _ => ?_)
    refine ac_ts mixed ?_
    refine t_bin rfl rfl .eql rfl rfl ?_
    refine t_assign rfl rfl rfl ?_
    refine tr_nil ?_
    refine ac_bool (fun hb1 => ?_) (fun hb1 => ?_)
    · refine ac_cond rfl (fun _ => ?_) (fun hb => by cases hb)
      refine ac_skip ?_
      change AC _ _ _ _ _
      refine ac_cond rfl (fun hb => ?_) (fun hb => by cases hb)
      refine ac_ts mixed ?_
      first | refine s_callF rfl .rfl (r1_Nat_ev) rfl rfl ?_ | refine s_callF rfl (by (repeat' (first | exact VLes.rfl | exact VLes.nil | exact VLe.rfl | refine VLes.cons ?_ ?_ | exact VLe.own | exact VLe.full | exact VLe.nils | refine VLe.agg ?_ | exact VLe.fullE (dTms_one _) | exact VLe.fullE (dTms_two _ _) | exact VLe.fullE (dTms_three _ _ _) | exact VLe.fullE (dTys_one _) | exact VLe.fullE (dTys_two _ _) | exact VLe.fullE (dTys_three _ _ _)))) (r1_Nat_ev) rfl rfl ?_
      first | refine s_storeW ty30 rfl rfl rfl rfl rfl rfl rfl ?_ | refine s_store (ws := [_, _]) ty30 rfl rfl rfl rfl rfl rfl rfl rfl ?_
      refine tr_nil ?_
      refine ac_ret ?_
      refine ⟨.inr rfl, _, ⟨_, _, _, _, _, rfl, rfl, rfl, .inl (retAgg ty30 rfl), rfl⟩, ?_, ?_⟩
      · rw [show mkType L (d + 1) a = (.nat, (next L 7 a).2) by simp_all [mkType]]
        (repeat' (first | exact VLe.rfl | exact VLes.rfl | exact VLes.nil | refine VLes.cons ?_ ?_ | refine VLe.agg ?_ | refine VLe.tup ?_ | exact VLe.own | exact VLe.full | exact VLe.nils | exact VLe.any | exact VLe.clo | exact VLe.fn | refine VLe.intE ?_ | refine VLe.boolE ?_ | refine VLe.sliceE ?_ | refine VLe.ownE ?_ | refine VLe.ownO ?_ | refine VLe.fullE ?_ | refine VLe.nilsE ?_))
      · rw [show mkType L (d + 1) a = (.nat, (next L 7 a).2) by simp_all [mkType]]
        (refine sigTo_at ?_; (repeat' (first | exact trivial | refine ⟨⟨_, rfl, ?_⟩, ?_⟩ | exact OLe.rfl | refine OLe.cells ?_ | exact VLe.rfl | exact VLes.rfl | exact VLes.nil | refine VLes.cons ?_ ?_ | exact VLe.any | exact VLe.own | exact VLe.full | exact VLe.clo | exact VLe.fn | refine VLe.intE ?_ | refine VLe.boolE ?_ | refine VLe.sliceE ?_ | refine VLe.ownE ?_ | refine VLe.fullE ?_ | refine VLe.nilsE ?_)))
    · refine ac_cond rfl (fun hb => by cases hb) (fun _ => ?_)
      refine ac_t mixed ?_
      refine t_bin rfl rfl .eql rfl rfl ?_
      refine t_assign rfl rfl rfl ?_
      refine tr_nil ?_
      change AC _ _ _ _ _
      refine ac_bool (fun hb2 => ?_) (fun hb2 => ?_)
      · refine ac_cond rfl (fun _ => ?_) (fun hb => by cases hb)
        refine ac_ts mixed ?_
        first | refine s_callF rfl .rfl (r1_Nat_ev) rfl rfl ?_ | refine s_callF rfl (by (repeat' (first | exact VLes.rfl | exact VLes.nil | exact VLe.rfl | refine VLes.cons ?_ ?_ | exact VLe.own | exact VLe.full | exact VLe.nils | refine VLe.agg ?_ | exact VLe.fullE (dTms_one _) | exact VLe.fullE (dTms_two _ _) | exact VLe.fullE (dTms_three _ _ _) | exact VLe.fullE (dTys_one _) | exact VLe.fullE (dTys_two _ _) | exact VLe.fullE (dTys_three _ _ _)))) (r1_Nat_ev) rfl rfl ?_
        first | refine s_storeW ty30 rfl rfl rfl rfl rfl rfl rfl ?_ | refine s_store (ws := [_, _]) ty30 rfl rfl rfl rfl rfl rfl rfl rfl ?_
        refine tr_nil ?_
        refine ac_ret ?_
        refine ⟨.inr rfl, _, ⟨_, _, _, _, _, rfl, rfl, rfl, .inl (retAgg ty30 rfl), rfl⟩, ?_, ?_⟩
        · rw [show mkType L (d + 1) a = (.nat, (next L 7 a).2) by simp_all [mkType]]
          (repeat' (first | exact VLe.rfl | exact VLes.rfl | exact VLes.nil | refine VLes.cons ?_ ?_ | refine VLe.agg ?_ | refine VLe.tup ?_ | exact VLe.own | exact VLe.full | exact VLe.nils | exact VLe.any | exact VLe.clo | exact VLe.fn | refine VLe.intE ?_ | refine VLe.boolE ?_ | refine VLe.sliceE ?_ | refine VLe.ownE ?_ | refine VLe.ownO ?_ | refine VLe.fullE ?_ | refine VLe.nilsE ?_))
        · rw [show mkType L (d + 1) a = (.nat, (next L 7 a).2) by simp_all [mkType]]
          (refine sigTo_at ?_; (repeat' (first | exact trivial | refine ⟨⟨_, rfl, ?_⟩, ?_⟩ | exact OLe.rfl | refine OLe.cells ?_ | exact VLe.rfl | exact VLes.rfl | exact VLes.nil | refine VLes.cons ?_ ?_ | exact VLe.any | exact VLe.own | exact VLe.full | exact VLe.clo | exact VLe.fn | refine VLe.intE ?_ | refine VLe.boolE ?_ | refine VLe.sliceE ?_ | refine VLe.ownE ?_ | refine VLe.fullE ?_ | refine VLe.nilsE ?_)))
      · refine ac_cond rfl (fun hb => by cases hb) (fun _ => ?_)
        refine ac_ts mixed ?_
        refine t_bin rfl rfl .eql rfl rfl ?_
        refine t_assign rfl rfl rfl ?_
        refine tr_nil ?_
        refine ac_bool (fun hb3 => ?_) (fun hb3 => ?_)
        · refine ac_cond rfl (fun _ => ?_) (fun hb => by cases hb)
          refine ac_ts mixed ?_
          first | refine s_callF rfl .rfl (r1_List_ev) rfl rfl ?_ | refine s_callF rfl (by (repeat' (first | exact VLes.rfl | exact VLes.nil | exact VLe.rfl | refine VLes.cons ?_ ?_ | exact VLe.own | exact VLe.full | exact VLe.nils | refine VLe.agg ?_ | exact VLe.fullE (dTms_one _) | exact VLe.fullE (dTms_two _ _) | exact VLe.fullE (dTms_three _ _ _) | exact VLe.fullE (dTys_one _) | exact VLe.fullE (dTys_two _ _) | exact VLe.fullE (dTys_three _ _ _)))) (r1_List_ev) rfl rfl ?_
          first | refine s_storeW ty30 rfl rfl rfl rfl rfl rfl rfl ?_ | refine s_store (ws := [_, _]) ty30 rfl rfl rfl rfl rfl rfl rfl rfl ?_
          refine tr_nil ?_
          refine ac_ret ?_
          refine ⟨.inr rfl, _, ⟨_, _, _, _, _, rfl, rfl, rfl, .inl (retAgg ty30 rfl), rfl⟩, ?_, ?_⟩
          · rw [show mkType L (d + 1) a = (.list, (next L 7 a).2) by simp_all [mkType]]
            (repeat' (first | exact VLe.rfl | exact VLes.rfl | exact VLes.nil | refine VLes.cons ?_ ?_ | refine VLe.agg ?_ | refine VLe.tup ?_ | exact VLe.own | exact VLe.full | exact VLe.nils | exact VLe.any | exact VLe.clo | exact VLe.fn | refine VLe.intE ?_ | refine VLe.boolE ?_ | refine VLe.sliceE ?_ | refine VLe.ownE ?_ | refine VLe.ownO ?_ | refine VLe.fullE ?_ | refine VLe.nilsE ?_))
          · rw [show mkType L (d + 1) a = (.list, (next L 7 a).2) by simp_all [mkType]]
            (refine sigTo_at ?_; (repeat' (first | exact trivial | refine ⟨⟨_, rfl, ?_⟩, ?_⟩ | exact OLe.rfl | refine OLe.cells ?_ | exact VLe.rfl | exact VLes.rfl | exact VLes.nil | refine VLes.cons ?_ ?_ | exact VLe.any | exact VLe.own | exact VLe.full | exact VLe.clo | exact VLe.fn | refine VLe.intE ?_ | refine VLe.boolE ?_ | refine VLe.sliceE ?_ | refine VLe.ownE ?_ | refine VLe.fullE ?_ | refine VLe.nilsE ?_)))
        · refine ac_cond rfl (fun hb => by cases hb) (fun _ => ?_)
          refine ac_ts mixed ?_
          refine t_bin rfl rfl .eql rfl rfl ?_
          refine t_assign rfl rfl rfl ?_
          refine tr_nil ?_
          refine ac_bool (fun hb4 => ?_) (fun hb4 => ?_)
          · refine ac_cond rfl (fun _ => ?_) (fun hb => by cases hb)
            refine ac_ts mixed ?_
            first | refine s_callF rfl .rfl (r1_Unit_ev) rfl rfl ?_ | refine s_callF rfl (by (repeat' (first | exact VLes.rfl | exact VLes.nil | exact VLe.rfl | refine VLes.cons ?_ ?_ | exact VLe.own | exact VLe.full | exact VLe.nils | refine VLe.agg ?_ | exact VLe.fullE (dTms_one _) | exact VLe.fullE (dTms_two _ _) | exact VLe.fullE (dTms_three _ _ _) | exact VLe.fullE (dTys_one _) | exact VLe.fullE (dTys_two _ _) | exact VLe.fullE (dTys_three _ _ _)))) (r1_Unit_ev) rfl rfl ?_
            first | refine s_storeW ty30 rfl rfl rfl rfl rfl rfl rfl ?_ | refine s_store (ws := [_, _]) ty30 rfl rfl rfl rfl rfl rfl rfl rfl ?_
            refine tr_nil ?_
            refine ac_ret ?_
            refine ⟨.inr rfl, _, ⟨_, _, _, _, _, rfl, rfl, rfl, .inl (retAgg ty30 rfl), rfl⟩, ?_, ?_⟩
            · rw [show mkType L (d + 1) a = (.unit, (next L 7 a).2) by simp_all [mkType]]
              (repeat' (first | exact VLe.rfl | exact VLes.rfl | exact VLes.nil | refine VLes.cons ?_ ?_ | refine VLe.agg ?_ | refine VLe.tup ?_ | exact VLe.own | exact VLe.full | exact VLe.nils | exact VLe.any | exact VLe.clo | exact VLe.fn | refine VLe.intE ?_ | refine VLe.boolE ?_ | refine VLe.sliceE ?_ | refine VLe.ownE ?_ | refine VLe.ownO ?_ | refine VLe.fullE ?_ | refine VLe.nilsE ?_))
            · rw [show mkType L (d + 1) a = (.unit, (next L 7 a).2) by simp_all [mkType]]
              (refine sigTo_at ?_; (repeat' (first | exact trivial | refine ⟨⟨_, rfl, ?_⟩, ?_⟩ | exact OLe.rfl | refine OLe.cells ?_ | exact VLe.rfl | exact VLes.rfl | exact VLes.nil | refine VLes.cons ?_ ?_ | exact VLe.any | exact VLe.own | exact VLe.full | exact VLe.clo | exact VLe.fn | refine VLe.intE ?_ | refine VLe.boolE ?_ | refine VLe.sliceE ?_ | refine VLe.ownE ?_ | refine VLe.fullE ?_ | refine VLe.nilsE ?_)))
          · refine ac_cond rfl (fun hb => by cases hb) (fun _ => ?_)
            refine ac_ts mixed ?_
            refine t_bin rfl rfl .eql rfl rfl ?_
            refine t_assign rfl rfl rfl ?_
            refine tr_nil ?_
            refine ac_bool (fun hb5 => ?_) (fun hb5 => ?_)
            · refine ac_cond rfl (fun _ => ?_) (fun hb => by cases hb)
              refine ac_ts mixed ?_
              refine t_move rfl rfl rfl ?_
              refine t_bin rfl rfl .gtr rfl rfl ?_
              refine tr_known (e' := true) (hpos) ?_
              refine tr_nil ?_
              refine ac_cond rfl (fun hb => ?_) (fun hb => by cases hb)
              refine ac_ts mixed ?_
              refine t_move rfl rfl rfl ?_
              refine t_move rfl rfl rfl ?_
              refine s_bin (r' := .int .i64 (d : Int)) rfl rfl .sub (by rw [hdd]) rfl rfl ?_
              first | refine s_callSF rfl .rfl (ih (by omega) _ ha1) rfl rfl rfl rfl rfl ?_ | refine s_callSF rfl (by (repeat' (first | exact VLes.rfl | exact VLes.nil | exact VLe.rfl | refine VLes.cons ?_ ?_ | exact VLe.own | exact VLe.full | exact VLe.nils | refine VLe.agg ?_ | exact VLe.fullE (dTms_one _) | exact VLe.fullE (dTms_two _ _) | exact VLe.fullE (dTms_three _ _ _) | exact VLe.fullE (dTys_one _) | exact VLe.fullE (dTys_two _ _) | exact VLe.fullE (dTys_three _ _ _)))) (ih (by omega) _ ha1) rfl rfl rfl rfl rfl ?_
              refine t_move rfl rfl rfl ?_
              refine t_move rfl rfl rfl ?_
              refine s_bin (r' := .int .i64 (d : Int)) rfl rfl .sub (by rw [hdd]) rfl rfl ?_
              first | refine s_callSF rfl .rfl (ih (by omega) _ ha2) rfl rfl rfl rfl rfl ?_ | refine s_callSF rfl (by (repeat' (first | exact VLes.rfl | exact VLes.nil | exact VLe.rfl | refine VLes.cons ?_ ?_ | exact VLe.own | exact VLe.full | exact VLe.nils | refine VLe.agg ?_ | exact VLe.fullE (dTms_one _) | exact VLe.fullE (dTms_two _ _) | exact VLe.fullE (dTms_three _ _ _) | exact VLe.fullE (dTys_one _) | exact VLe.fullE (dTys_two _ _) | exact VLe.fullE (dTys_three _ _ _)))) (ih (by omega) _ ha2) rfl rfl rfl rfl rfl ?_
              first | refine s_callF rfl .rfl (r1_Two_ev _ _ (hz1 _) (hz1 _)) rfl rfl ?_ | refine s_callF rfl (by (repeat' (first | exact VLes.rfl | exact VLes.nil | exact VLe.rfl | refine VLes.cons ?_ ?_ | exact VLe.own | exact VLe.full | exact VLe.nils | refine VLe.agg ?_ | exact VLe.fullE (dTms_one _) | exact VLe.fullE (dTms_two _ _) | exact VLe.fullE (dTms_three _ _ _) | exact VLe.fullE (dTys_one _) | exact VLe.fullE (dTys_two _ _) | exact VLe.fullE (dTys_three _ _ _)))) (r1_Two_ev _ _ (hz1 _) (hz1 _)) rfl rfl ?_
              first | refine s_storeW ty30 rfl rfl rfl rfl rfl rfl rfl ?_ | refine s_store (ws := [_, _]) ty30 rfl rfl rfl rfl rfl rfl rfl rfl ?_
              refine tr_nil ?_
              refine ac_ret ?_
              refine ⟨.inr rfl, _, ⟨_, _, _, _, _, rfl, rfl, rfl, .inl (retAgg ty30 rfl), rfl⟩, ?_, ?_⟩
              · have e : ((next L 7 a).1 == 5) = true := by assumption
                rw [show mkType L (d + 1) a = _ from mkType_5 (by simpa using e)]
                (repeat' (first | exact VLe.rfl | exact VLes.rfl | exact VLes.nil | refine VLes.cons ?_ ?_ | refine VLe.agg ?_ | refine VLe.tup ?_ | exact VLe.own | exact VLe.full | exact VLe.nils | exact VLe.any | exact VLe.clo | exact VLe.fn | refine VLe.intE ?_ | refine VLe.boolE ?_ | refine VLe.sliceE ?_ | refine VLe.ownE ?_ | refine VLe.ownO ?_ | refine VLe.fullE ?_ | refine VLe.nilsE ?_))
              · have e : ((next L 7 a).1 == 5) = true := by assumption
                rw [show mkType L (d + 1) a = _ from mkType_5 (by simpa using e)]
                (refine sigTo_at ?_; (repeat' (first | exact trivial | refine ⟨⟨_, rfl, ?_⟩, ?_⟩ | exact OLe.rfl | refine OLe.cells ?_ | exact VLe.rfl | exact VLes.rfl | exact VLes.nil | refine VLes.cons ?_ ?_ | exact VLe.any | exact VLe.own | exact VLe.full | exact VLe.clo | exact VLe.fn | refine VLe.intE ?_ | refine VLe.boolE ?_ | refine VLe.sliceE ?_ | refine VLe.ownE ?_ | refine VLe.fullE ?_ | refine VLe.nilsE ?_)))
            · refine ac_cond rfl (fun hb => by cases hb) (fun _ => ?_)
              refine ac_ts mixed ?_
              refine t_bin rfl rfl .eql rfl rfl ?_
              refine t_assign rfl rfl rfl ?_
              refine tr_nil ?_
              refine ac_bool (fun hb7 => ?_) (fun hb7 => ?_)
              · refine ac_cond rfl (fun _ => ?_) (fun hb => by cases hb)
                refine ac_ts mixed ?_
                refine t_move rfl rfl rfl ?_
                refine t_bin rfl rfl .gtr rfl rfl ?_
                refine tr_known (e' := true) (hpos) ?_
                refine tr_nil ?_
                refine ac_cond rfl (fun hb => ?_) (fun hb => by cases hb)
                refine ac_ts mixed ?_
                refine t_move rfl rfl rfl ?_
                refine t_move rfl rfl rfl ?_
                refine s_bin (r' := .int .i64 (d : Int)) rfl rfl .sub (by rw [hdd]) rfl rfl ?_
                first | refine s_callSF rfl .rfl (ih (by omega) _ ha1) rfl rfl rfl rfl rfl ?_ | refine s_callSF rfl (by (repeat' (first | exact VLes.rfl | exact VLes.nil | exact VLe.rfl | refine VLes.cons ?_ ?_ | exact VLe.own | exact VLe.full | exact VLe.nils | refine VLe.agg ?_ | exact VLe.fullE (dTms_one _) | exact VLe.fullE (dTms_two _ _) | exact VLe.fullE (dTms_three _ _ _) | exact VLe.fullE (dTys_one _) | exact VLe.fullE (dTys_two _ _) | exact VLe.fullE (dTys_three _ _ _)))) (ih (by omega) _ ha1) rfl rfl rfl rfl rfl ?_
                refine t_move rfl rfl rfl ?_
                refine t_move rfl rfl rfl ?_
                refine s_bin (r' := .int .i64 (d : Int)) rfl rfl .sub (by rw [hdd]) rfl rfl ?_
                first | refine s_callSF rfl .rfl (ih (by omega) _ ha2) rfl rfl rfl rfl rfl ?_ | refine s_callSF rfl (by (repeat' (first | exact VLes.rfl | exact VLes.nil | exact VLe.rfl | refine VLes.cons ?_ ?_ | exact VLe.own | exact VLe.full | exact VLe.nils | refine VLe.agg ?_ | exact VLe.fullE (dTms_one _) | exact VLe.fullE (dTms_two _ _) | exact VLe.fullE (dTms_three _ _ _) | exact VLe.fullE (dTys_one _) | exact VLe.fullE (dTys_two _ _) | exact VLe.fullE (dTys_three _ _ _)))) (ih (by omega) _ ha2) rfl rfl rfl rfl rfl ?_
                first | refine s_callF rfl .rfl (r1_Fun_ev _ _ (hz1 _) (hz1 _)) rfl rfl ?_ | refine s_callF rfl (by (repeat' (first | exact VLes.rfl | exact VLes.nil | exact VLe.rfl | refine VLes.cons ?_ ?_ | exact VLe.own | exact VLe.full | exact VLe.nils | refine VLe.agg ?_ | exact VLe.fullE (dTms_one _) | exact VLe.fullE (dTms_two _ _) | exact VLe.fullE (dTms_three _ _ _) | exact VLe.fullE (dTys_one _) | exact VLe.fullE (dTys_two _ _) | exact VLe.fullE (dTys_three _ _ _)))) (r1_Fun_ev _ _ (hz1 _) (hz1 _)) rfl rfl ?_
                first | refine s_storeW ty30 rfl rfl rfl rfl rfl rfl rfl ?_ | refine s_store (ws := [_, _]) ty30 rfl rfl rfl rfl rfl rfl rfl rfl ?_
                refine tr_nil ?_
                refine ac_ret ?_
                refine ⟨.inr rfl, _, ⟨_, _, _, _, _, rfl, rfl, rfl, .inl (retAgg ty30 rfl), rfl⟩, ?_, ?_⟩
                · have e : ((next L 7 a).1 == 6) = true := by assumption
                  rw [show mkType L (d + 1) a = _ from mkType_6 (by simpa using e)]
                  (repeat' (first | exact VLe.rfl | exact VLes.rfl | exact VLes.nil | refine VLes.cons ?_ ?_ | refine VLe.agg ?_ | refine VLe.tup ?_ | exact VLe.own | exact VLe.full | exact VLe.nils | exact VLe.any | exact VLe.clo | exact VLe.fn | refine VLe.intE ?_ | refine VLe.boolE ?_ | refine VLe.sliceE ?_ | refine VLe.ownE ?_ | refine VLe.ownO ?_ | refine VLe.fullE ?_ | refine VLe.nilsE ?_))
                · have e : ((next L 7 a).1 == 6) = true := by assumption
                  rw [show mkType L (d + 1) a = _ from mkType_6 (by simpa using e)]
                  (refine sigTo_at ?_; (repeat' (first | exact trivial | refine ⟨⟨_, rfl, ?_⟩, ?_⟩ | exact OLe.rfl | refine OLe.cells ?_ | exact VLe.rfl | exact VLes.rfl | exact VLes.nil | refine VLes.cons ?_ ?_ | exact VLe.any | exact VLe.own | exact VLe.full | exact VLe.clo | exact VLe.fn | refine VLe.intE ?_ | refine VLe.boolE ?_ | refine VLe.sliceE ?_ | refine VLe.ownE ?_ | refine VLe.fullE ?_ | refine VLe.nilsE ?_)))
              · refine ac_cond rfl (fun hb => by cases hb) (fun _ => ?_)
                refine ac_skip ?_
                change AC _ _ _ _ _
                refine ac_ts mixed ?_
                first | refine s_callF rfl .rfl (r1_Nat_ev) rfl rfl ?_ | refine s_callF rfl (by (repeat' (first | exact VLes.rfl | exact VLes.nil | exact VLe.rfl | refine VLes.cons ?_ ?_ | exact VLe.own | exact VLe.full | exact VLe.nils | refine VLe.agg ?_ | exact VLe.fullE (dTms_one _) | exact VLe.fullE (dTms_two _ _) | exact VLe.fullE (dTms_three _ _ _) | exact VLe.fullE (dTys_one _) | exact VLe.fullE (dTys_two _ _) | exact VLe.fullE (dTys_three _ _ _)))) (r1_Nat_ev) rfl rfl ?_
                first | refine s_storeW ty30 rfl rfl rfl rfl rfl rfl rfl ?_ | refine s_store (ws := [_, _]) ty30 rfl rfl rfl rfl rfl rfl rfl rfl ?_
                refine tr_nil ?_
                refine ac_ret ?_
                refine ⟨.inr rfl, _, ⟨_, _, _, _, _, rfl, rfl, rfl, .inl (retAgg ty30 rfl), rfl⟩, ?_, ?_⟩
                · rw [show mkType L (d + 1) a = (.nat, (next L 7 a).2) by simp_all [mkType]]
                  (repeat' (first | exact VLe.rfl | exact VLes.rfl | exact VLes.nil | refine VLes.cons ?_ ?_ | refine VLe.agg ?_ | refine VLe.tup ?_ | exact VLe.own | exact VLe.full | exact VLe.nils | exact VLe.any | exact VLe.clo | exact VLe.fn | refine VLe.intE ?_ | refine VLe.boolE ?_ | refine VLe.sliceE ?_ | refine VLe.ownE ?_ | refine VLe.ownO ?_ | refine VLe.fullE ?_ | refine VLe.nilsE ?_))
                · rw [show mkType L (d + 1) a = (.nat, (next L 7 a).2) by simp_all [mkType]]
                  (refine sigTo_at ?_; (repeat' (first | exact trivial | refine ⟨⟨_, rfl, ?_⟩, ?_⟩ | exact OLe.rfl | refine OLe.cells ?_ | exact VLe.rfl | exact VLes.rfl | exact VLes.nil | refine VLes.cons ?_ ?_ | exact VLe.any | exact VLe.own | exact VLe.full | exact VLe.clo | exact VLe.fn | refine VLe.intE ?_ | refine VLe.boolE ?_ | refine VLe.sliceE ?_ | refine VLe.ownE ?_ | refine VLe.fullE ?_ | refine VLe.nilsE ?_)))
theorem Context_ev (L : List Int) (hL : L.length ≤ 1000000) (a : Nat) (ha : a ≤ L.length) : Ev Tryd.prog GL 9 ([.ptr 1000 0] ++ []) [(1000, .cells [.d (.slice (dInts L)), .d (.int .i64 a)] 55)] (.d (.slice (dTys (mkCtx L a).1))) [(1000, .cells [.d (.slice (dInts L)), .d (.int .i64 (mkCtx L a).2)] 55)] := by
  have ha1 := next_at L 4 ha
  have hr := next_range L a (show (1 : Int) ≤ 4 by omega) (by omega)
  obtain ⟨n, hn⟩ : ∃ n : Nat, (next L 4 a).1 = n := ⟨(next L 4 a).1.toNat, by omega⟩
  have hn3 : n ≤ 3 := by omega
  have e : mkCtx L a = mkTypes L n (next L 4 a).2 := by unfold mkCtx; rw [hn]; rfl
  rw [e]
  -- live at block 0: t3
  -- live at block 1: t0, t3, t4
  -- live at cond 0: t0, t3, t4
  -- live at loop 0: t0, t3, t4
  refine ev_of_body (N := 17) (ks := _) (ρ0 := [(0, _)]) (σ0 := _) (rs := [.tmp 2]) Tryd.func9 rfl (by kernel_rfl) rfl rfl rfl rfl rfl rfl rfl rfl rfl rfl (fun E ι0 => ?_)
  refine ac_ts mixed ?_
  refine t_assign rfl rfl rfl ?_
  refine tr_nil ?_
  refine ac_ts mixed ?_
  refine t_assign rfl rfl rfl ?_
  refine tr_nil ?_
  refine ac_seq ?_
  refine ac_ts mixed ?_
  refine t_move rfl rfl rfl ?_
  first | refine s_callSF rfl .rfl (Next_ev L hL 4 a ha) rfl rfl rfl rfl rfl ?_ | refine s_callSF rfl (by (repeat' (first | exact VLes.rfl | exact VLes.nil | exact VLe.rfl | refine VLes.cons ?_ ?_ | exact VLe.own | exact VLe.full | exact VLe.nils | refine VLe.agg ?_ | exact VLe.fullE (dTms_one _) | exact VLe.fullE (dTms_two _ _) | exact VLe.fullE (dTms_three _ _ _) | exact VLe.fullE (dTys_one _) | exact VLe.fullE (dTys_two _ _) | exact VLe.fullE (dTys_three _ _ _)))) (Next_ev L hL 4 a ha) rfl rfl rfl rfl rfl ?_
  refine t_assign rfl rfl rfl ?_
  refine tr_nil ?_
  refine ac_block ?_
  rw [hn]
  refine ac_weak (weak_rowt (L := 100) (t := 3) (sz := 2) (e := 30) (es := []) rfl rfl VLe.nilfull) ?_
  refine ac_while (fun (j : Nat) => ⟨[(0, .ptr 1000 0), (3, .own (dTys (mkTypes L j (next L 4 a).2).1) 100), (4, .d (.int .i64 ((n - j : Nat) : Int)))], [(1000, some (.cells [.d (.slice (dInts L)), .d (.int .i64 (mkTypes L j (next L 4 a).2).2)] 55)), (100, some (.row (dTys (mkTypes L j (next L 4 a).2).1).length 2 30))], [1000, 100]⟩) (fun (j : Nat) => j ≤ n) (fun (j : Nat) => n - j) (0) ?_ ?_ (fun j hI => ?_)
  · omega
  · (refine weak_of ?_ ?_ rfl rfl rfl <;> (repeat' (first | exact trivial | refine ⟨⟨_, rfl, ?_⟩, ?_⟩ | exact OLe.rfl | refine OLe.cells ?_ | exact VLe.rfl | exact VLes.rfl | exact VLes.nil | refine VLes.cons ?_ ?_ | refine VLe.agg ?_ | refine VLe.tup ?_ | exact VLe.own | exact VLe.full | exact VLe.nils | exact VLe.any | exact VLe.clo | exact VLe.fn | refine VLe.intE ?_ | refine VLe.boolE ?_ | refine VLe.sliceE ?_ | refine VLe.ownE ?_ | refine VLe.ownO ?_ | refine VLe.fullE ?_ | refine VLe.nilsE ?_ | refine OLe.row ?_)))
  skip
  refine ac_seq ?_
  refine ac_ts mixed ?_
  refine t_move rfl rfl rfl ?_
  refine t_bin rfl rfl .gtr rfl rfl ?_
  refine tr_nil ?_
  refine ac_bool (fun hb0 => ?_) (fun hb0 => ?_)
  · refine ac_cond rfl (fun _ => ?_) (fun hb => by cases hb)
    have hlt : j < n := by simp at hb0; omega
    have hlen := mkTypes_len L (next L 4 a).2 j
    have hat := mkTypes_at L ha1 j
    refine ac_skip ?_
    change AC _ _ _ _ _
    refine ac_seq ?_
    refine ac_block ?_
    refine ac_t mixed ?_
    refine t_move rfl rfl rfl ?_
    refine t_move rfl rfl rfl ?_
    first | refine s_callSF rfl .rfl (Type_ev L hL 1 (by decide) _ hat) rfl rfl rfl rfl rfl ?_ | refine s_callSF rfl (by (repeat' (first | exact VLes.rfl | exact VLes.nil | exact VLe.rfl | refine VLes.cons ?_ ?_ | exact VLe.own | exact VLe.full | exact VLe.nils | refine VLe.agg ?_ | exact VLe.fullE (dTms_one _) | exact VLe.fullE (dTms_two _ _) | exact VLe.fullE (dTms_three _ _ _) | exact VLe.fullE (dTys_one _) | exact VLe.fullE (dTys_two _ _) | exact VLe.fullE (dTys_three _ _ _)))) (Type_ev L hL 1 (by decide) _ hat) rfl rfl rfl rfl rfl ?_
    first | refine t_buildSlice sli27 (Opds.ofL rfl) (.cons (.agg .rfl) .nil) (by intro x hx; simp only [List.mem_cons, List.not_mem_nil, or_false] at hx; rcases hx with rfl <;> rfl) rfl rfl rfl rfl ?_ | refine t_buildSlice sli27 (Opds.ofL rfl) (Elems.ofL rfl) (by intro x hx; simp only [List.mem_cons, List.not_mem_nil, or_false] at hx; rcases hx with rfl <;> rfl) rfl rfl rfl rfl ?_
    first | refine t_append_own rfl sli27 rfl rfl (by constructor) rfl (by (first | exact dTys_sz _ | exact dTms_sz _ | exact dInts_sz _ | exact sz_nil | exact sz_one rfl | exact sz_app (dTys_sz _) (sz_one rfl) | exact sz_app (dTms_sz _) (sz_one rfl))) (by (first | exact dTys_sz _ | exact dTms_sz _ | exact dInts_sz _ | exact sz_nil | exact sz_one rfl | exact sz_app (dTys_sz _) (sz_one rfl) | exact sz_app (dTms_sz _) (sz_one rfl))) (by (simp only [dTys_len, dTms_len, dInts_len, List.length_append, List.length_cons, List.length_nil, List.length_take]; omega)) rfl rfl rfl rfl ?_ | refine t_append rfl sli27 rfl (by first | exact VLe.nilfull | exact VLe.rfl) rfl (by constructor) (by (first | exact dTys_sz _ | exact dTms_sz _ | exact dInts_sz _ | exact sz_nil | exact sz_one rfl | exact sz_app (dTys_sz _) (sz_one rfl) | exact sz_app (dTms_sz _) (sz_one rfl))) (by (first | exact dTys_sz _ | exact dTms_sz _ | exact dInts_sz _ | exact sz_nil | exact sz_one rfl | exact sz_app (dTys_sz _) (sz_one rfl) | exact sz_app (dTms_sz _) (sz_one rfl))) (by (simp only [dTys_len, dTms_len, dInts_len, List.length_append, List.length_cons, List.length_nil, List.length_take]; omega)) rfl rfl rfl rfl rfl ?_
    refine t_assign rfl rfl rfl ?_
    refine tr_nil ?_
    change AC _ _ _ _ _
    refine ac_t mixed ?_
    refine t_move rfl rfl rfl ?_
    refine t_bin rfl rfl .sub rfl rfl ?_
    refine t_assign rfl rfl rfl ?_
    refine tr_nil ?_
    show ∃ y, _ ∧ _ ∧ Weak _ _ _
    refine ⟨j + 1, ?_, ?_, ?_⟩
    · omega
    · omega
    · rw [show mkTypes L (j + 1) (next L 4 a).2 = ((mkTypes L j (next L 4 a).2).1 ++ [(mkType L 1 (mkTypes L j (next L 4 a).2).2).1], (mkType L 1 (mkTypes L j (next L 4 a).2).2).2) from rfl, ← dTys_push]
      (refine weak_of ?_ ?_ rfl rfl rfl <;> (repeat' (first | exact trivial | refine ⟨⟨_, rfl, ?_⟩, ?_⟩ | exact OLe.rfl | refine OLe.cells ?_ | exact VLe.rfl | exact VLes.rfl | exact VLes.nil | refine VLes.cons ?_ ?_ | refine VLe.agg ?_ | refine VLe.tup ?_ | exact VLe.own | exact VLe.full | exact VLe.nils | exact VLe.any | exact VLe.clo | exact VLe.fn | refine VLe.intE ?_ | refine VLe.boolE ?_ | refine VLe.sliceE ?_ | refine VLe.ownE ?_ | refine VLe.ownO ?_ | refine VLe.fullE ?_ | refine VLe.nilsE ?_ | refine OLe.row ?_)))
      all_goals (rw [i64_id (by omega) (by omega)]; omega)
  · refine ac_cond rfl (fun hb => by cases hb) (fun _ => ?_)
    have hlt : j = n := by simp at hb0; omega
    subst hlt
    refine ac_exit ?_
    change AC _ _ _ _ _
    refine ac_ts mixed ?_
    refine t_move rfl rfl rfl ?_
    refine t_assign rfl rfl rfl ?_
    refine tr_nil ?_
    refine ac_ret ?_
    refine ⟨.inr rfl, _, ⟨_, _, rfl, rfl, rfl⟩, ?_, ?_⟩
    · (repeat' (first | exact VLe.rfl | exact VLes.rfl | exact VLes.nil | refine VLes.cons ?_ ?_ | refine VLe.agg ?_ | refine VLe.tup ?_ | exact VLe.own | exact VLe.full | exact VLe.nils | exact VLe.any | exact VLe.clo | exact VLe.fn | refine VLe.intE ?_ | refine VLe.boolE ?_ | refine VLe.sliceE ?_ | refine VLe.ownE ?_ | refine VLe.ownO ?_ | refine VLe.fullE ?_ | refine VLe.nilsE ?_))
    · (refine sigTo_at ?_; (repeat' (first | exact trivial | refine ⟨⟨_, rfl, ?_⟩, ?_⟩ | exact OLe.rfl | refine OLe.cells ?_ | exact VLe.rfl | exact VLes.rfl | exact VLes.nil | refine VLes.cons ?_ ?_ | exact VLe.any | exact VLe.own | exact VLe.full | exact VLe.clo | exact VLe.fn | refine VLe.intE ?_ | refine VLe.boolE ?_ | refine VLe.sliceE ?_ | refine VLe.ownE ?_ | refine VLe.fullE ?_ | refine VLe.nilsE ?_)))
theorem vars_ev (g : List Typ) (hg : g.length ≤ 1000000) (hgs : ∀ u ∈ g, u.okB = true) (t : Typ) : Ev Tryd.prog GL 29 [.d (.slice (dTys g)), vTy t] [] (.d (.slice (dInts (mkVars g t)))) [] := by
  -- live at block 0: t5
  -- live at block 1: t0, t3(ptr), t5, t8, t9
  -- live at cond 0: t0, t3(ptr), t5, t8, t9
  -- live at cond 1: t0, t3(ptr), t5, t8, t9
  -- live at loop 0: t0, t3(ptr), t5, t8, t9
  refine ev_of_body (N := 28) (ks := []) (ρ0 := [(0, _), (1, _)]) (σ0 := []) (rs := [.tmp 4]) Tryd.func29 rfl (by kernel_rfl) rfl rfl rfl rfl rfl rfl rfl rfl rfl rfl (fun E ι0 => ?_)
  refine ac_ts mixed ?_
  refine s_box 3 rfl rfl rfl rfl rfl ?_
  refine t_assign rfl rfl rfl ?_
  refine tr_nil ?_
  refine ac_ts mixed ?_
  refine t_assign rfl rfl rfl ?_
  refine tr_nil ?_
  refine ac_seq ?_
  refine ac_ts mixed ?_
  refine t_move rfl rfl rfl ?_
  refine t_len rfl sli27 rfl (by constructor) rfl rfl ?_
  refine t_move rfl rfl rfl ?_
  refine tr_nil ?_
  refine ac_weak (weak_rowt (L := 100) (t := 5) (sz := 1) (e := 3) (es := []) rfl rfl VLe.nilfull) ?_
  refine ac_range mixed ((dTys g).length) (fun i => [(3, .ptr 3 0), (0, .d (.slice (dTys g))), (5, .own (dInts (((List.range i).filter (varB g t)).map Int.ofNat)) 100)]) (fun i => [(3, some (.cells ((dTy t).map V.d) 30)), (100, some (.row (dInts (((List.range i).filter (varB g t)).map Int.ofNat)).length 1 3))]) (fun i => [3, 100]) (fun i => True) trivial ?_ (by first | omega | (simp only [dTys_len, dTms_len, dInts_len, List.length_append, List.length_cons, List.length_nil, List.length_take]; omega)) rfl (fun i => ⟨rfl, rfl⟩) (fun i hi hI => ?_) (fun hI => ?_)
  · (refine weak_of ?_ ?_ rfl rfl rfl <;> (repeat' (first | exact trivial | refine ⟨⟨_, rfl, ?_⟩, ?_⟩ | exact OLe.rfl | refine OLe.cells ?_ | exact VLe.rfl | exact VLes.rfl | exact VLes.nil | refine VLes.cons ?_ ?_ | refine VLe.agg ?_ | refine VLe.tup ?_ | exact VLe.own | exact VLe.full | exact VLe.nils | exact VLe.any | exact VLe.clo | exact VLe.fn | refine VLe.intE ?_ | refine VLe.boolE ?_ | refine VLe.sliceE ?_ | refine VLe.ownE ?_ | refine VLe.ownO ?_ | refine VLe.fullE ?_ | refine VLe.nilsE ?_ | refine OLe.row ?_)))
  · rw [dTys_len] at hi
    have hi0 : g.length - 1 - i < g.length := by omega
    have hget := dTys_getD hi0
    have hok := (okB_iff.1 (getD_mem_ok hgs hi0)).2
    have hfl := (List.length_filter_le (varB g t) (List.range i))
    rw [List.length_range] at hfl
    refine ac_ts mixed ?_
    refine t_move rfl rfl rfl ?_
    refine t_assign rfl rfl rfl ?_
    refine tr_nil ?_
    refine ac_ds mixed ?_
    refine t_move rfl rfl rfl ?_
    refine t_move rfl rfl rfl ?_
    refine t_len rfl sli27 rfl (by constructor) rfl rfl ?_
    refine s_bin (r' := .int .i64 ((g.length : Int) - 1)) rfl rfl .sub (by rw [dTys_len, i64_id (by omega) (by omega)]) rfl rfl ?_
    refine t_move rfl rfl rfl ?_
    refine s_bin (r' := .int .i64 ((g.length - 1 - i : Nat) : Int)) rfl rfl .sub (by rw [i64_id (by omega) (by omega)]; congr 1; omega) rfl rfl ?_
    refine t_indexAddr sli27 rfl (by constructor) rfl (Int.natCast_nonneg _) hget rfl rfl rfl ?_
    first | refine t_load ty30 rfl rfl rfl rfl rfl rfl ?_ | refine s_loadWc ty30 rfl rfl rfl rfl ?_ | refine t_loadN (us := [_, _]) ty30 rfl rfl rfl rfl rfl rfl ?_ | refine t_loadNc (us := [_, _]) ty30 rfl rfl rfl rfl rfl ?_
    first | refine t_load ty30 rfl rfl rfl rfl rfl rfl ?_ | refine s_loadWc ty30 rfl rfl rfl rfl ?_ | refine t_loadN (us := [_, _]) ty30 rfl rfl rfl rfl rfl rfl ?_ | refine t_loadNc (us := [_, _]) ty30 rfl rfl rfl rfl rfl ?_
    first | refine s_callF rfl .rfl (r1_Same_ev _ (by omega) t) rfl rfl ?_ | refine s_callF rfl (by (repeat' (first | exact VLes.rfl | exact VLes.nil | exact VLe.rfl | refine VLes.cons ?_ ?_ | exact VLe.own | exact VLe.full | exact VLe.nils | refine VLe.agg ?_ | exact VLe.fullE (dTms_one _) | exact VLe.fullE (dTms_two _ _) | exact VLe.fullE (dTms_three _ _ _) | exact VLe.fullE (dTys_one _) | exact VLe.fullE (dTys_two _ _) | exact VLe.fullE (dTys_three _ _ _)))) (r1_Same_ev _ (by omega) t) rfl rfl ?_
    refine tr_nil ⟨by kernel_rfl, ?_⟩
    refine ac_bool (fun hb1 => ?_) (fun hb1 => ?_)
    · refine ac_cond rfl (fun _ => ?_) (fun hb => by cases hb)
      refine ac_t mixed ?_
      refine t_move rfl rfl rfl ?_
      refine t_move rfl rfl rfl ?_
      first | refine t_buildSlice sli22 (Opds.ofL rfl) (.cons .d .nil) (by intro x hx; simp only [List.mem_cons, List.not_mem_nil, or_false] at hx; rcases hx with rfl <;> rfl) rfl rfl rfl rfl ?_ | refine t_buildSlice sli22 (Opds.ofL rfl) (Elems.ofL rfl) (by intro x hx; simp only [List.mem_cons, List.not_mem_nil, or_false] at hx; rcases hx with rfl <;> rfl) rfl rfl rfl rfl ?_
      first | refine t_append_own rfl sli22 rfl rfl (by constructor) rfl (by (first | exact dTys_sz _ | exact dTms_sz _ | exact dInts_sz _ | exact sz_nil | exact sz_one rfl | exact sz_app (dTys_sz _) (sz_one rfl) | exact sz_app (dTms_sz _) (sz_one rfl))) (by (first | exact dTys_sz _ | exact dTms_sz _ | exact dInts_sz _ | exact sz_nil | exact sz_one rfl | exact sz_app (dTys_sz _) (sz_one rfl) | exact sz_app (dTms_sz _) (sz_one rfl))) (by simp only [dInts_len, List.length_map, List.length_cons, List.length_nil]; omega) rfl rfl rfl rfl ?_ | refine t_append rfl sli22 rfl (by first | exact VLe.nilfull | exact VLe.rfl) rfl (by constructor) (by (first | exact dTys_sz _ | exact dTms_sz _ | exact dInts_sz _ | exact sz_nil | exact sz_one rfl | exact sz_app (dTys_sz _) (sz_one rfl) | exact sz_app (dTms_sz _) (sz_one rfl))) (by (first | exact dTys_sz _ | exact dTms_sz _ | exact dInts_sz _ | exact sz_nil | exact sz_one rfl | exact sz_app (dTys_sz _) (sz_one rfl) | exact sz_app (dTms_sz _) (sz_one rfl))) (by simp only [dInts_len, List.length_map, List.length_cons, List.length_nil]; omega) rfl rfl rfl rfl rfl ?_
      refine t_assign rfl rfl rfl ?_
      refine tr_nil ?_
      show _ ∧ Weak _ _ _
      refine ⟨trivial, ?_⟩
      rw [show ((List.range (i + 1)).filter (varB g t)).map Int.ofNat = ((List.range i).filter (varB g t)).map Int.ofNat ++ [(i : Int)] by rw [filter_range_succ, show varB g t i = true from hb1, if_pos rfl, List.map_append]; rfl, ← dInts_push]
      (refine weak_of ?_ ?_ rfl rfl rfl <;> (repeat' (first | exact trivial | refine ⟨⟨_, rfl, ?_⟩, ?_⟩ | exact OLe.rfl | refine OLe.cells ?_ | exact VLe.rfl | exact VLes.rfl | exact VLes.nil | refine VLes.cons ?_ ?_ | refine VLe.agg ?_ | refine VLe.tup ?_ | exact VLe.own | exact VLe.full | exact VLe.nils | exact VLe.any | exact VLe.clo | exact VLe.fn | refine VLe.intE ?_ | refine VLe.boolE ?_ | refine VLe.sliceE ?_ | refine VLe.ownE ?_ | refine VLe.ownO ?_ | refine VLe.fullE ?_ | refine VLe.nilsE ?_ | refine OLe.row ?_)))
    · refine ac_cond rfl (fun hb => by cases hb) (fun _ => ?_)
      refine ac_skip ?_
      show _ ∧ Weak _ _ _
      refine ⟨trivial, ?_⟩
      rw [show ((List.range (i + 1)).filter (varB g t)).map Int.ofNat = ((List.range i).filter (varB g t)).map Int.ofNat by rw [filter_range_succ, show varB g t i = false from hb1]; simp]
      (refine weak_of ?_ ?_ rfl rfl rfl <;> (repeat' (first | exact trivial | refine ⟨⟨_, rfl, ?_⟩, ?_⟩ | exact OLe.rfl | refine OLe.cells ?_ | exact VLe.rfl | exact VLes.rfl | exact VLes.nil | refine VLes.cons ?_ ?_ | refine VLe.agg ?_ | refine VLe.tup ?_ | exact VLe.own | exact VLe.full | exact VLe.nils | exact VLe.any | exact VLe.clo | exact VLe.fn | refine VLe.intE ?_ | refine VLe.boolE ?_ | refine VLe.sliceE ?_ | refine VLe.ownE ?_ | refine VLe.ownO ?_ | refine VLe.fullE ?_ | refine VLe.nilsE ?_ | refine OLe.row ?_)))
  · rw [dTys_len]
    change AC _ _ _ _ _
    refine ac_ts mixed ?_
    refine t_move rfl rfl rfl ?_
    refine t_assign rfl rfl rfl ?_
    refine tr_nil ?_
    refine ac_ret ?_
    refine ⟨.inr rfl, _, ⟨_, _, rfl, rfl, rfl⟩, ?_, ?_⟩
    · (repeat' (first | exact VLe.rfl | exact VLes.rfl | exact VLes.nil | refine VLes.cons ?_ ?_ | refine VLe.agg ?_ | refine VLe.tup ?_ | exact VLe.own | exact VLe.full | exact VLe.nils | exact VLe.any | exact VLe.clo | exact VLe.fn | refine VLe.intE ?_ | refine VLe.boolE ?_ | refine VLe.sliceE ?_ | refine VLe.ownE ?_ | refine VLe.ownO ?_ | refine VLe.fullE ?_ | refine VLe.nilsE ?_))
    · (intro l o h; cases h)
theorem longer_ev (g l : List Typ) (hg : g.length + l.length ≤ 1000000) : Ev Tryd.prog GL 30 [.d (.slice (dTys g)), .d (.slice (dTys l))] [] (.d (.slice (dTys (g ++ l)))) [] := by
  refine ev_of_body (N := 9) (ks := []) (ρ0 := [(0, _), (1, _)]) (σ0 := []) (rs := [.tmp 4]) Tryd.func30 rfl (by kernel_rfl) rfl rfl rfl rfl rfl rfl rfl rfl rfl rfl (fun E ι0 => ?_)
  refine ac_ts mixed ?_
  refine t_assign rfl rfl rfl ?_
  refine tr_nil ?_
  refine ac_ts mixed ?_
  refine t_move rfl rfl rfl ?_
  first | refine t_append_own rfl sli27 rfl rfl (by constructor) rfl (by (first | exact dTys_sz _ | exact dTms_sz _ | exact dInts_sz _ | exact sz_nil | exact sz_one rfl | exact sz_app (dTys_sz _) (sz_one rfl) | exact sz_app (dTms_sz _) (sz_one rfl))) (by (first | exact dTys_sz _ | exact dTms_sz _ | exact dInts_sz _ | exact sz_nil | exact sz_one rfl | exact sz_app (dTys_sz _) (sz_one rfl) | exact sz_app (dTms_sz _) (sz_one rfl))) (by (simp only [dTys_len, dTms_len, dInts_len, List.length_append, List.length_cons, List.length_nil, List.length_take]; omega)) rfl (List.nil_append _) rfl rfl ?_ | refine t_append rfl sli27 rfl (by first | exact VLe.nilfull | exact VLe.rfl) rfl (by constructor) (by (first | exact dTys_sz _ | exact dTms_sz _ | exact dInts_sz _ | exact sz_nil | exact sz_one rfl | exact sz_app (dTys_sz _) (sz_one rfl) | exact sz_app (dTms_sz _) (sz_one rfl))) (by (first | exact dTys_sz _ | exact dTms_sz _ | exact dInts_sz _ | exact sz_nil | exact sz_one rfl | exact sz_app (dTys_sz _) (sz_one rfl) | exact sz_app (dTms_sz _) (sz_one rfl))) (by (simp only [dTys_len, dTms_len, dInts_len, List.length_append, List.length_cons, List.length_nil, List.length_take]; omega)) rfl (List.nil_append _) rfl rfl rfl ?_
  refine t_move rfl rfl rfl ?_
  first | refine t_append_own rfl sli27 rfl rfl (by constructor) rfl (by (first | exact dTys_sz _ | exact dTms_sz _ | exact dInts_sz _ | exact sz_nil | exact sz_one rfl | exact sz_app (dTys_sz _) (sz_one rfl) | exact sz_app (dTms_sz _) (sz_one rfl))) (by (first | exact dTys_sz _ | exact dTms_sz _ | exact dInts_sz _ | exact sz_nil | exact sz_one rfl | exact sz_app (dTys_sz _) (sz_one rfl) | exact sz_app (dTms_sz _) (sz_one rfl))) (by (simp only [dTys_len, dTms_len, dInts_len, List.length_append, List.length_cons, List.length_nil, List.length_take]; omega)) rfl (dTys_app g l) rfl rfl ?_ | refine t_append rfl sli27 rfl (by first | exact VLe.nilfull | exact VLe.rfl) rfl (by constructor) (by (first | exact dTys_sz _ | exact dTms_sz _ | exact dInts_sz _ | exact sz_nil | exact sz_one rfl | exact sz_app (dTys_sz _) (sz_one rfl) | exact sz_app (dTms_sz _) (sz_one rfl))) (by (first | exact dTys_sz _ | exact dTms_sz _ | exact dInts_sz _ | exact sz_nil | exact sz_one rfl | exact sz_app (dTys_sz _) (sz_one rfl) | exact sz_app (dTms_sz _) (sz_one rfl))) (by (simp only [dTys_len, dTms_len, dInts_len, List.length_append, List.length_cons, List.length_nil, List.length_take]; omega)) rfl (dTys_app g l) rfl rfl rfl ?_
  refine t_assign rfl rfl rfl ?_
  refine tr_nil ?_
  refine ac_ret ?_
  refine ⟨.inr rfl, _, ⟨_, _, rfl, rfl, rfl⟩, ?_, ?_⟩
  · (repeat' (first | exact VLe.rfl | exact VLes.rfl | exact VLes.nil | refine VLes.cons ?_ ?_ | refine VLe.agg ?_ | refine VLe.tup ?_ | exact VLe.own | exact VLe.full | exact VLe.nils | exact VLe.any | exact VLe.clo | exact VLe.fn | refine VLe.intE ?_ | refine VLe.boolE ?_ | refine VLe.sliceE ?_ | refine VLe.ownE ?_ | refine VLe.ownO ?_ | refine VLe.fullE ?_ | refine VLe.nilsE ?_))
  · (intro l o h; cases h)
end Go.AM

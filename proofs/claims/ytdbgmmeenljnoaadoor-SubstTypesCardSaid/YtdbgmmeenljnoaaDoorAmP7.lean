/-
  Contract: a term that is made.
-/
import Derived.Test.YtdbgmmeenljnoaaDoorAmP6
set_option linter.unusedVariables false
set_option linter.unusedSimpArgs false
set_option maxRecDepth 20000
namespace Go.AM
open Go Go.RowKit Go.Proofs

theorem Term_ev (L : List Int) (hL : L.length ≤ 1000000) (n : Nat) : ∀ (dep : Int) (g : List Typ) (t : Typ) (a : Nat), dep ≤ 4 → (n : Int) - 100000 ≤ dep → g.length + 4 * n ≤ 100000 → t.okB = true → (∀ u ∈ g, u.okB = true) → fuelOk n dep t → a ≤ L.length →
    Ev Tryd.prog GL 11 ([.ptr 1000 0, .d (.slice (dTys g)), vTy t, .d (.int .i64 dep)] ++ []) [(1000, .cells [.d (.slice (dInts L)), .d (.int .i64 a)] 55)] (vTm (mkTerm L n dep g t a).1) [(1000, .cells [.d (.slice (dInts L)), .d (.int .i64 (mkTerm L n dep g t a).2)] 55)] := by
  induction n with
  | zero =>
    intro dep g t a _ _ _ ht _ hf
    have := t.sz_pos
    rcases hf with ⟨h1, h2⟩ | ⟨h1, h2⟩ <;> omega
  | succ n ih =>
  intro dep g t a hd4 hdl hgl ht hg hf ha
  have hts := (okB_iff.1 ht).2
  have htp := t.sz_pos
  have hwr : IntKind.i64.wrap (dep - 1) = dep - 1 := i64_id (by omega) (by omega)
  have hcall : ∀ (g' : List Typ) (t' : Typ) (a' : Nat), g'.length ≤ g.length + 3 → t'.okB = true → (∀ u ∈ g', u.okB = true) → (0 < dep ∨ t'.sz < t.sz) → a' ≤ L.length →
      (Ev Tryd.prog GL 11 ([.ptr 1000 0, .d (.slice (dTys g')), vTy t', .d (.int .i64 (dep - 1))] ++ []) [(1000, .cells [.d (.slice (dInts L)), .d (.int .i64 a')] 55)] (vTm (mkTerm L n (dep - 1) g' t' a').1) [(1000, .cells [.d (.slice (dInts L)), .d (.int .i64 (mkTerm L n (dep - 1) g' t' a').2)] 55)])
      ∧ (mkTerm L n (dep - 1) g' t' a').1.big ≤ 64000 ∧ (mkTerm L n (dep - 1) g' t' a').2 ≤ L.length := fun g' t' a' h1 h2 h3 h4 h5 => by
    have hs' := (okB_iff.1 h2).2
    have hf' : fuelOk n (dep - 1) t' := by
      unfold fuelOk at hf ⊢
      by_cases hc : dep - 1 ≤ 0
      · refine .inl ⟨hc, ?_⟩
        rcases hf with ⟨f1, f2⟩ | ⟨f1, f2⟩
        · rcases h4 with h4 | h4 <;> omega
        · omega
      · refine .inr ⟨by omega, ?_⟩
        rcases hf with ⟨f1, f2⟩ | ⟨f1, f2⟩ <;> omega
    exact ⟨ih (dep - 1) g' t' a' (by omega) (by omega) (by omega) h2 h3 hf' h5, mkTerm_64k L n (dep - 1) g' t' a' h2 h3 hf' (by omega), mkTerm_at L n (dep - 1) g' t' a' h5⟩
  have hd0 := draw3_at (g := g) (t := t) ha
  have hc8 := next_at L 8 hd0
  have hN : (dInts (mkVars g t)).length = (mkVars g t).length := dInts_len _
  have hNl : (mkVars g t).length ≤ g.length := by
    unfold mkVars; rw [List.length_map]
    have := List.length_filter_le (varB g t) (List.range g.length)
    rwa [List.length_range] at this
  have hdeq : mkTerm L (n + 1) dep g t a = termBody L (mkTerm L n (dep - 1)) (decide (dep > 0)) g t a := rfl
  rw [hdeq]
  -- live at block 0: t0, t1, t3, t6(ptr), t8(ptr)
  -- live at block 1: t0, t1, t3, t6(ptr), t8(ptr)
  -- live at block 2: t0, t1, t3, t6(ptr), t8(ptr), t176, t177
  -- live at block 3: t8(ptr)
  -- live at block 4: t0, t8(ptr)
  -- live at cond 0: t0, t1, t3, t6(ptr), t8(ptr)
  -- live at cond 1: t0, t1, t3, t6(ptr), t8(ptr)
  -- live at cond 2: t0, t1, t3, t6(ptr), t8(ptr)
  -- live at cond 3: t0, t1, t3, t6(ptr), t8(ptr)
  -- live at cond 4: t0, t1, t3, t6(ptr), t8(ptr)
  -- live at cond 5: t0, t1, t3, t6(ptr), t8(ptr)
  -- live at cond 6: t0, t1, t3, t6(ptr), t8(ptr)
  -- live at cond 7: t0, t1, t3, t6(ptr), t8(ptr)
  -- live at cond 8: t0, t1, t3, t6(ptr), t8(ptr), t176, t177
  -- live at cond 9: t0, t1, t3, t6(ptr), t8(ptr), t176, t177
  -- live at cond 10: t8(ptr)
  -- live at cond 11: t0, t8(ptr)
  -- live at cond 12: t0, t8(ptr)
  -- live at cond 13: t0, t8(ptr)
  -- live at cond 14: t0, t8(ptr)
  -- live at cond 15: t8(ptr)
  -- live at cond 16: t8(ptr)
  -- live at cond 17: t8(ptr)
  -- live at cond 18: t8(ptr)
  -- live at loop 0: t0, t1, t3, t6(ptr), t8(ptr), t176, t177
  refine ev_of_body (N := 338) (ks := _) (ρ0 := [(0, _), (1, _), (2, _), (3, _)]) (σ0 := _) (rs := [.cell 8 34]) Tryd.func11 rfl (by kernel_rfl) rfl rfl rfl rfl rfl rfl rfl rfl rfl rfl (fun E ι0 => ?_)
  refine ac_ts mixed ?_
  refine s_box 6 rfl rfl rfl rfl rfl ?_
  refine s_alloc 8 zer34 rfl rfl rfl rfl ?_
  refine tr_nil ?_
  refine ac_ts mixed ?_
  refine t_move rfl rfl rfl ?_
  first | refine t_load ty30 rfl rfl rfl rfl rfl rfl ?_ | refine s_loadWc ty30 rfl rfl rfl rfl ?_ | refine t_loadN (us := [_, _]) ty30 rfl rfl rfl rfl rfl rfl ?_ | refine t_loadNc (us := [_, _]) ty30 rfl rfl rfl rfl rfl ?_
  first | refine s_callF rfl .rfl (vars_ev g (by omega) hg t) rfl rfl ?_ | refine s_callF rfl (by (repeat' (first | exact VLes.rfl | exact VLes.nil | exact VLe.rfl | refine VLes.cons ?_ ?_ | exact VLe.own | exact VLe.full | exact VLe.nils | refine VLe.agg ?_ | exact VLe.fullE (dTms_one _) | exact VLe.fullE (dTms_two _ _) | exact VLe.fullE (dTms_three _ _ _) | exact VLe.fullE (dTys_one _) | exact VLe.fullE (dTys_two _ _) | exact VLe.fullE (dTys_three _ _ _)))) (vars_ev g (by omega) hg t) rfl rfl ?_
  refine t_assign rfl rfl rfl ?_
  refine tr_nil ?_
  refine ac_join (fun (a0 : Nat) => ⟨[(6, .ptr 6 0), (8, .ptr 8 0), (0, .ptr 1000 0), (1, .d (.slice (dTys g))), (3, .d (.int .i64 dep))], [(6, some (.cells ((dTy t).map V.d) 30)), (8, some (.cells [.d (.int .i64 0), .d (.int .i64 0), .d (.int .i64 0), .d .nils, .d .nils] 34)), (1000, some (.cells [.d (.slice (dInts L)), .d (.int .i64 a0)] 55))], [6, 8, 1000]⟩) (fun (a0 : Nat) => a0 = (draw3 L g t a).2 ∧ (decide (((mkVars g t).length : Int) > 0) && decide ((draw3 L g t a).1 > 0)) = false) ?_ (fun a0 hj => ?_)
  · refine ac_ts mixed ?_
    refine t_move rfl rfl rfl ?_
    refine t_len rfl sli22 rfl (by constructor) rfl rfl ?_
    refine t_bin rfl rfl .gtr rfl rfl ?_
    refine t_move rfl rfl rfl ?_
    refine tr_bool (fun h23 => ?_) (fun h23 => ?_)
    · have h3 : draw3 L g t a = next L 3 a := by rw [hN] at h23; unfold draw3; rw [if_pos h23]
      refine t_move rfl ⟨_, rfl, .inl ⟨_, rfl, rfl⟩⟩ rfl ?_
      first | refine s_callSF rfl .rfl (Next_ev L hL 3 a ha) rfl rfl rfl ⟨_, rfl, .inl ⟨_, rfl, rfl⟩⟩ rfl ?_ | refine s_callSF rfl (by (repeat' (first | exact VLes.rfl | exact VLes.nil | exact VLe.rfl | refine VLes.cons ?_ ?_ | exact VLe.own | exact VLe.full | exact VLe.nils | refine VLe.agg ?_ | exact VLe.fullE (dTms_one _) | exact VLe.fullE (dTms_two _ _) | exact VLe.fullE (dTms_three _ _ _) | exact VLe.fullE (dTys_one _) | exact VLe.fullE (dTys_two _ _) | exact VLe.fullE (dTys_three _ _ _)))) (Next_ev L hL 3 a ha) rfl rfl rfl ⟨_, rfl, .inl ⟨_, rfl, rfl⟩⟩ rfl ?_
      refine t_bin rfl rfl .gtr ⟨_, rfl, .inl ⟨_, rfl, rfl⟩⟩ rfl ?_
      refine t_pick_t rfl rfl rfl rfl rfl ?_
      refine tr_nil ?_
      refine ac_bool (fun hb0 => ?_) (fun hb0 => ?_)
      · refine ac_cond rfl (fun _ => ?_) (fun hb => by cases hb)
        rw [hN] at h23
        rw [← h3] at hb0
        have hpos : 1 ≤ ((mkVars g t).length : Int) := by simp at h23; omega
        have hcr := next_range L (draw3 L g t a).2 hpos (by omega)
        have hb : termBody L (mkTerm L n (dep - 1)) (decide (dep > 0)) g t a = (.var ((mkVars g t).getD (next L (mkVars g t).length (draw3 L g t a).2).1.toNat 0), (next L (mkVars g t).length (draw3 L g t a).2).2) := by
          unfold termBody; simp only [h23, hb0, Bool.and_self, if_true]
        rw [hb, ← h3]
        refine ac_ts mixed ?_
        refine t_move rfl rfl rfl ?_
        refine t_move rfl rfl rfl ?_
        refine t_move rfl rfl rfl ?_
        refine t_len rfl sli22 rfl (by constructor) rfl rfl ?_
        rw [hN]
        first | refine s_callSF rfl .rfl (Next_ev L hL _ _ hd0) rfl rfl rfl rfl rfl ?_ | refine s_callSF rfl (by (repeat' (first | exact VLes.rfl | exact VLes.nil | exact VLe.rfl | refine VLes.cons ?_ ?_ | exact VLe.own | exact VLe.full | exact VLe.nils | refine VLe.agg ?_ | exact VLe.fullE (dTms_one _) | exact VLe.fullE (dTms_two _ _) | exact VLe.fullE (dTms_three _ _ _) | exact VLe.fullE (dTys_one _) | exact VLe.fullE (dTys_two _ _) | exact VLe.fullE (dTys_three _ _ _)))) (Next_ev L hL _ _ hd0) rfl rfl rfl rfl rfl ?_
        refine t_indexAddr sli22 rfl (by constructor) rfl hcr.1 (mkVars_at g t hcr.1 hcr.2) rfl rfl rfl ?_
        first | refine t_load1 ty3 rfl rfl rfl rfl rfl ?_ | refine t_load1c ty3 rfl rfl rfl rfl ?_
        first | refine s_callF rfl .rfl (r2_Var_ev _) rfl rfl ?_ | refine s_callF rfl (by (repeat' (first | exact VLes.rfl | exact VLes.nil | exact VLe.rfl | refine VLes.cons ?_ ?_ | exact VLe.own | exact VLe.full | exact VLe.nils | refine VLe.agg ?_ | exact VLe.fullE (dTms_one _) | exact VLe.fullE (dTms_two _ _) | exact VLe.fullE (dTms_three _ _ _) | exact VLe.fullE (dTys_one _) | exact VLe.fullE (dTys_two _ _) | exact VLe.fullE (dTys_three _ _ _)))) (r2_Var_ev _) rfl rfl ?_
        first | refine s_storeW ty34 rfl rfl rfl rfl rfl rfl rfl ?_ | refine s_store (ws := [_, _, _, _, _]) ty34 rfl rfl rfl rfl rfl rfl rfl rfl ?_
        refine tr_nil ?_
        refine ac_ret ?_
        refine ⟨.inr rfl, _, ⟨_, _, _, _, _, rfl, rfl, rfl, .inl (retAgg ty34 rfl), rfl⟩, ?_, ?_⟩
        · (repeat' (first | exact VLe.rfl | exact VLes.rfl | exact VLes.nil | refine VLes.cons ?_ ?_ | refine VLe.agg ?_ | refine VLe.tup ?_ | exact VLe.own | exact VLe.full | exact VLe.nils | exact VLe.any | exact VLe.clo | exact VLe.fn | refine VLe.intE ?_ | refine VLe.boolE ?_ | refine VLe.sliceE ?_ | refine VLe.ownE ?_ | refine VLe.ownO ?_ | refine VLe.fullE ?_ | refine VLe.nilsE ?_))
        · (refine sigTo_at ?_; (repeat' (first | exact trivial | refine ⟨⟨_, rfl, ?_⟩, ?_⟩ | exact OLe.rfl | refine OLe.cells ?_ | exact VLe.rfl | exact VLes.rfl | exact VLes.nil | refine VLes.cons ?_ ?_ | exact VLe.any | exact VLe.own | exact VLe.full | exact VLe.clo | exact VLe.fn | refine VLe.intE ?_ | refine VLe.boolE ?_ | refine VLe.sliceE ?_ | refine VLe.ownE ?_ | refine VLe.fullE ?_ | refine VLe.nilsE ?_)))
      · refine ac_cond rfl (fun hb => by cases hb) (fun _ => ?_)
        refine ac_skip ?_
        show ∃ a, _ ∧ Weak _ _ _
        refine ⟨(draw3 L g t a).2, ?_, ?_⟩
        rotate_left
        · rw [h3]
          (refine weak_of ?_ ?_ rfl rfl rfl <;> (repeat' (first | exact trivial | refine ⟨⟨_, rfl, ?_⟩, ?_⟩ | exact OLe.rfl | refine OLe.cells ?_ | exact VLe.rfl | exact VLes.rfl | exact VLes.nil | refine VLes.cons ?_ ?_ | refine VLe.agg ?_ | refine VLe.tup ?_ | exact VLe.own | exact VLe.full | exact VLe.nils | exact VLe.any | exact VLe.clo | exact VLe.fn | refine VLe.intE ?_ | refine VLe.boolE ?_ | refine VLe.sliceE ?_ | refine VLe.ownE ?_ | refine VLe.ownO ?_ | refine VLe.fullE ?_ | refine VLe.nilsE ?_ | refine OLe.row ?_)))
        · refine ⟨rfl, ?_⟩
          rw [h3, hb0, Bool.and_false]
    · have h3 : draw3 L g t a = (0, a) := by rw [hN] at h23; unfold draw3; rw [h23]; rfl
      refine t_skip ⟨_, rfl, .inl ⟨_, rfl, rfl⟩⟩ rfl ?_
      refine t_skip ⟨_, rfl, .inl ⟨_, rfl, rfl⟩⟩ rfl ?_
      refine t_skip ⟨_, rfl, .inl ⟨_, rfl, rfl⟩⟩ rfl ?_
      refine t_pick_f rfl rfl rfl rfl rfl ?_
      refine tr_nil ?_
      refine ac_cond rfl (fun hb => by cases hb) (fun hb => ?_)
      refine ac_skip ?_
      show ∃ a, _ ∧ Weak _ _ _
      refine ⟨(draw3 L g t a).2, ?_, ?_⟩
      rotate_left
      · rw [h3]
        (refine weak_of ?_ ?_ rfl rfl rfl <;> (repeat' (first | exact trivial | refine ⟨⟨_, rfl, ?_⟩, ?_⟩ | exact OLe.rfl | refine OLe.cells ?_ | exact VLe.rfl | exact VLes.rfl | exact VLes.nil | refine VLes.cons ?_ ?_ | refine VLe.agg ?_ | refine VLe.tup ?_ | exact VLe.own | exact VLe.full | exact VLe.nils | exact VLe.any | exact VLe.clo | exact VLe.fn | refine VLe.intE ?_ | refine VLe.boolE ?_ | refine VLe.sliceE ?_ | refine VLe.ownE ?_ | refine VLe.ownO ?_ | refine VLe.fullE ?_ | refine VLe.nilsE ?_ | refine OLe.row ?_)))
      · refine ⟨rfl, ?_⟩
        rw [hN] at h23
        rw [h23, Bool.false_and]
  · obtain ⟨rfl, hc0⟩ := hj
    have hr2 : termBody L (mkTerm L n (dep - 1)) (decide (dep > 0)) g t a = ((if decide (dep > 0) then deepBody L (mkTerm L n (dep - 1)) g t (next L 8 (draw3 L g t a).2).1 (next L 8 (draw3 L g t a).2).2 else none).getD (flatBody L (mkTerm L n (dep - 1)) (decide (dep > 0)) g t (if decide (dep > 0) then (next L 8 (draw3 L g t a).2).2 else (draw3 L g t a).2))) := by
      unfold termBody; simp only [hc0, Bool.false_eq_true, if_false]
    rw [hr2]
    clear hr2 hdeq
    refine ac_join (fun (a1 : Nat) => ⟨[(6, .ptr 6 0), (8, .ptr 8 0), (0, .ptr 1000 0), (1, .d (.slice (dTys g))), (3, .d (.int .i64 dep))], [(6, some (.cells ((dTy t).map V.d) 30)), (8, some (.cells [.d (.int .i64 0), .d (.int .i64 0), .d (.int .i64 0), .d .nils, .d .nils] 34)), (1000, some (.cells [.d (.slice (dInts L)), .d (.int .i64 a1)] 55))], [6, 8, 1000]⟩) (fun (a1 : Nat) => (if decide (dep > 0) then deepBody L (mkTerm L n (dep - 1)) g t (next L 8 (draw3 L g t a).2).1 (next L 8 (draw3 L g t a).2).2 else none) = none ∧ a1 = (if decide (dep > 0) then (next L 8 (draw3 L g t a).2).2 else (draw3 L g t a).2)) ?_ (fun a1 hj => ?_)
    · refine ac_ts mixed ?_
      refine t_move rfl rfl rfl ?_
      refine t_bin rfl rfl .gtr rfl rfl ?_
      refine tr_nil ?_
      refine ac_bool (fun hb1 => ?_) (fun hb1 => ?_)
      · refine ac_cond rfl (fun _ => ?_) (fun hb => by cases hb)
        have hdp : 0 < dep := by simpa using hb1
        have hso := mkType_ok0 L (next L 8 (draw3 L g t a).2).2
        have hsz := (okB_iff.1 hso).2
        have hsa := mkType_at L 0 hc8
        refine ac_ts mixed ?_
        refine t_move rfl rfl rfl ?_
        first | refine s_callSF rfl .rfl (Next_ev L hL 8 _ hd0) rfl rfl rfl rfl rfl ?_ | refine s_callSF rfl (by (repeat' (first | exact VLes.rfl | exact VLes.nil | exact VLe.rfl | refine VLes.cons ?_ ?_ | exact VLe.own | exact VLe.full | exact VLe.nils | refine VLe.agg ?_ | exact VLe.fullE (dTms_one _) | exact VLe.fullE (dTms_two _ _) | exact VLe.fullE (dTms_three _ _ _) | exact VLe.fullE (dTys_one _) | exact VLe.fullE (dTys_two _ _) | exact VLe.fullE (dTys_three _ _ _)))) (Next_ev L hL 8 _ hd0) rfl rfl rfl rfl rfl ?_
        refine tr_nil ?_
        refine ac_block ?_
        refine ac_ts mixed ?_
        refine t_bin rfl rfl .eql rfl rfl ?_
        refine t_assign rfl rfl rfl ?_
        refine tr_nil ?_
        refine ac_bool (fun hb2 => ?_) (fun hb2 => ?_)
        · refine ac_cond rfl (fun _ => ?_) (fun hb => by cases hb)
          have hx := hcall (g ++ [(mkType L 0 (next L 8 (draw3 L g t a).2).2).1]) t (mkType L 0 (next L 8 (draw3 L g t a).2).2).2 (by simp) ht (ext hg hso) (.inl hdp) hsa
          have hy := hcall g (mkType L 0 (next L 8 (draw3 L g t a).2).2).1 (mkTerm L n (dep - 1) (g ++ [(mkType L 0 (next L 8 (draw3 L g t a).2).2).1]) t (mkType L 0 (next L 8 (draw3 L g t a).2).2).2).2 (by omega) hso hg (.inl hdp) hx.2.2
          have hbx := hx.2.1
          have hby := hy.2.1
          have he : deepBody L (mkTerm L n (dep - 1)) g t (next L 8 (draw3 L g t a).2).1 (next L 8 (draw3 L g t a).2).2 = some (tm 3 [.mk 2 0 (mkType L 0 (next L 8 (draw3 L g t a).2).2).1 [(mkTerm L n (dep - 1) (g ++ [(mkType L 0 (next L 8 (draw3 L g t a).2).2).1]) t (mkType L 0 (next L 8 (draw3 L g t a).2).2).2).1], (mkTerm L n (dep - 1) g (mkType L 0 (next L 8 (draw3 L g t a).2).2).1 (mkTerm L n (dep - 1) (g ++ [(mkType L 0 (next L 8 (draw3 L g t a).2).2).1]) t (mkType L 0 (next L 8 (draw3 L g t a).2).2).2).2).1], (mkTerm L n (dep - 1) g (mkType L 0 (next L 8 (draw3 L g t a).2).2).1 (mkTerm L n (dep - 1) (g ++ [(mkType L 0 (next L 8 (draw3 L g t a).2).2).1]) t (mkType L 0 (next L 8 (draw3 L g t a).2).2).2).2).2) := by unfold deepBody; rw [if_pos hb2]
          simp only [hb1, he, if_true, Option.getD_some]
          refine ac_ts mixed ?_
          refine t_move rfl rfl rfl ?_
          first | refine s_callSF rfl .rfl (Type0_ev L hL _ hc8) rfl rfl rfl rfl rfl ?_ | refine s_callSF rfl (by (repeat' (first | exact VLes.rfl | exact VLes.nil | exact VLe.rfl | refine VLes.cons ?_ ?_ | exact VLe.own | exact VLe.full | exact VLe.nils | refine VLe.agg ?_ | exact VLe.fullE (dTms_one _) | exact VLe.fullE (dTms_two _ _) | exact VLe.fullE (dTms_three _ _ _) | exact VLe.fullE (dTys_one _) | exact VLe.fullE (dTys_two _ _) | exact VLe.fullE (dTys_three _ _ _)))) (Type0_ev L hL _ hc8) rfl rfl rfl rfl rfl ?_
          refine s_alloc 10 zer30 rfl rfl rfl rfl ?_
          first | refine s_storeW ty30 rfl rfl rfl rfl rfl rfl rfl ?_ | refine s_store (ws := [_, _]) ty30 rfl rfl rfl rfl rfl rfl rfl rfl ?_
          refine tr_nil ?_
          refine ac_ds mixed ?_
          first | refine t_load ty30 rfl rfl rfl rfl rfl rfl ?_ | refine s_loadWc ty30 rfl rfl rfl rfl ?_ | refine t_loadN (us := [_, _]) ty30 rfl rfl rfl rfl rfl rfl ?_ | refine t_loadNc (us := [_, _]) ty30 rfl rfl rfl rfl rfl ?_
          refine t_move rfl rfl rfl ?_
          refine t_move rfl rfl rfl ?_
          first | refine t_load ty30 rfl rfl rfl rfl rfl rfl ?_ | refine s_loadWc ty30 rfl rfl rfl rfl ?_ | refine t_loadN (us := [_, _]) ty30 rfl rfl rfl rfl rfl rfl ?_ | refine t_loadNc (us := [_, _]) ty30 rfl rfl rfl rfl rfl ?_
          first | refine t_buildSlice sli27 (Opds.ofL rfl) (.cons (.agg .rfl) .nil) (by intro x hx; simp only [List.mem_cons, List.not_mem_nil, or_false] at hx; rcases hx with rfl <;> rfl) rfl rfl rfl rfl ?_ | refine t_buildSlice sli27 (Opds.ofL rfl) (Elems.ofL rfl) (by intro x hx; simp only [List.mem_cons, List.not_mem_nil, or_false] at hx; rcases hx with rfl <;> rfl) rfl rfl rfl rfl ?_
          first | refine s_callF rfl .rfl (longer_ev g [(mkType L 0 (next L 8 (draw3 L g t a).2).2).1] (by simp; omega)) rfl rfl ?_ | refine s_callF rfl (by (repeat' (first | exact VLes.rfl | exact VLes.nil | exact VLe.rfl | refine VLes.cons ?_ ?_ | exact VLe.own | exact VLe.full | exact VLe.nils | refine VLe.agg ?_ | exact VLe.fullE (dTms_one _) | exact VLe.fullE (dTms_two _ _) | exact VLe.fullE (dTms_three _ _ _) | exact VLe.fullE (dTys_one _) | exact VLe.fullE (dTys_two _ _) | exact VLe.fullE (dTys_three _ _ _)))) (longer_ev g [(mkType L 0 (next L 8 (draw3 L g t a).2).2).1] (by simp; omega)) rfl rfl ?_
          first | refine t_load ty30 rfl rfl rfl rfl rfl rfl ?_ | refine s_loadWc ty30 rfl rfl rfl rfl ?_ | refine t_loadN (us := [_, _]) ty30 rfl rfl rfl rfl rfl rfl ?_ | refine t_loadNc (us := [_, _]) ty30 rfl rfl rfl rfl rfl ?_
          refine t_move rfl rfl rfl ?_
          refine s_bin (r' := .int .i64 (dep - 1)) rfl rfl .sub (by rw [hwr]) rfl rfl ?_
          first | refine s_callSF rfl .rfl (hx.1) rfl rfl rfl rfl rfl ?_ | refine s_callSF rfl (by (repeat' (first | exact VLes.rfl | exact VLes.nil | exact VLe.rfl | refine VLes.cons ?_ ?_ | exact VLe.own | exact VLe.full | exact VLe.nils | refine VLe.agg ?_ | exact VLe.fullE (dTms_one _) | exact VLe.fullE (dTms_two _ _) | exact VLe.fullE (dTms_three _ _ _) | exact VLe.fullE (dTys_one _) | exact VLe.fullE (dTys_two _ _) | exact VLe.fullE (dTys_three _ _ _)))) (hx.1) rfl rfl rfl rfl rfl ?_
          first | refine t_buildSlice sli32 (Opds.ofL rfl) (.cons (.agg .rfl) .nil) (by intro x hx; simp only [List.mem_cons, List.not_mem_nil, or_false] at hx; rcases hx with rfl <;> rfl) rfl rfl rfl rfl ?_ | refine t_buildSlice sli32 (Opds.ofL rfl) (Elems.ofL rfl) (by intro x hx; simp only [List.mem_cons, List.not_mem_nil, or_false] at hx; rcases hx with rfl <;> rfl) rfl rfl rfl rfl ?_
          first | refine s_callF rfl .rfl (T_ev 2 (mkType L 0 (next L 8 (draw3 L g t a).2).2).1 (by omega) [(mkTerm L n (dep - 1) (g ++ [(mkType L 0 (next L 8 (draw3 L g t a).2).2).1]) t (mkType L 0 (next L 8 (draw3 L g t a).2).2).2).1] (by simp only [bigTms]; omega)) rfl rfl ?_ | refine s_callF rfl (by (repeat' (first | exact VLes.rfl | exact VLes.nil | exact VLe.rfl | refine VLes.cons ?_ ?_ | exact VLe.own | exact VLe.full | exact VLe.nils | refine VLe.agg ?_ | exact VLe.fullE (dTms_one _) | exact VLe.fullE (dTms_two _ _) | exact VLe.fullE (dTms_three _ _ _) | exact VLe.fullE (dTys_one _) | exact VLe.fullE (dTys_two _ _) | exact VLe.fullE (dTys_three _ _ _)))) (T_ev 2 (mkType L 0 (next L 8 (draw3 L g t a).2).2).1 (by omega) [(mkTerm L n (dep - 1) (g ++ [(mkType L 0 (next L 8 (draw3 L g t a).2).2).1]) t (mkType L 0 (next L 8 (draw3 L g t a).2).2).2).1] (by simp only [bigTms]; omega)) rfl rfl ?_
          refine t_move rfl rfl rfl ?_
          refine t_move rfl rfl rfl ?_
          first | refine t_load ty30 rfl rfl rfl rfl rfl rfl ?_ | refine s_loadWc ty30 rfl rfl rfl rfl ?_ | refine t_loadN (us := [_, _]) ty30 rfl rfl rfl rfl rfl rfl ?_ | refine t_loadNc (us := [_, _]) ty30 rfl rfl rfl rfl rfl ?_
          refine t_move rfl rfl rfl ?_
          refine s_bin (r' := .int .i64 (dep - 1)) rfl rfl .sub (by rw [hwr]) rfl rfl ?_
          first | refine s_callSF rfl .rfl (hy.1) rfl rfl rfl rfl rfl ?_ | refine s_callSF rfl (by (repeat' (first | exact VLes.rfl | exact VLes.nil | exact VLe.rfl | refine VLes.cons ?_ ?_ | exact VLe.own | exact VLe.full | exact VLe.nils | refine VLe.agg ?_ | exact VLe.fullE (dTms_one _) | exact VLe.fullE (dTms_two _ _) | exact VLe.fullE (dTms_three _ _ _) | exact VLe.fullE (dTys_one _) | exact VLe.fullE (dTys_two _ _) | exact VLe.fullE (dTys_three _ _ _)))) (hy.1) rfl rfl rfl rfl rfl ?_
          first | refine t_buildSlice sli32 (Opds.ofL rfl) (.cons (.agg .rfl) (.cons (.agg .rfl) .nil)) (by intro x hx; simp only [List.mem_cons, List.not_mem_nil, or_false] at hx; rcases hx with rfl | rfl <;> rfl) rfl rfl rfl rfl ?_ | refine t_buildSlice sli32 (Opds.ofL rfl) (Elems.ofL rfl) (by intro x hx; simp only [List.mem_cons, List.not_mem_nil, or_false] at hx; rcases hx with rfl | rfl <;> rfl) rfl rfl rfl rfl ?_
          first | refine s_callF rfl .rfl (N_ev 3 [.mk 2 0 (mkType L 0 (next L 8 (draw3 L g t a).2).2).1 [(mkTerm L n (dep - 1) (g ++ [(mkType L 0 (next L 8 (draw3 L g t a).2).2).1]) t (mkType L 0 (next L 8 (draw3 L g t a).2).2).2).1], (mkTerm L n (dep - 1) g (mkType L 0 (next L 8 (draw3 L g t a).2).2).1 (mkTerm L n (dep - 1) (g ++ [(mkType L 0 (next L 8 (draw3 L g t a).2).2).1]) t (mkType L 0 (next L 8 (draw3 L g t a).2).2).2).2).1] (by simp only [bigTms, Trm.big]; omega)) rfl rfl ?_ | refine s_callF rfl (by (repeat' (first | exact VLes.rfl | exact VLes.nil | exact VLe.rfl | refine VLes.cons ?_ ?_ | exact VLe.own | exact VLe.full | exact VLe.nils | refine VLe.agg ?_ | exact VLe.fullE (dTms_one _) | exact VLe.fullE (dTms_two _ _) | exact VLe.fullE (dTms_three _ _ _) | exact VLe.fullE (dTys_one _) | exact VLe.fullE (dTys_two _ _) | exact VLe.fullE (dTys_three _ _ _)))) (N_ev 3 [.mk 2 0 (mkType L 0 (next L 8 (draw3 L g t a).2).2).1 [(mkTerm L n (dep - 1) (g ++ [(mkType L 0 (next L 8 (draw3 L g t a).2).2).1]) t (mkType L 0 (next L 8 (draw3 L g t a).2).2).2).1], (mkTerm L n (dep - 1) g (mkType L 0 (next L 8 (draw3 L g t a).2).2).1 (mkTerm L n (dep - 1) (g ++ [(mkType L 0 (next L 8 (draw3 L g t a).2).2).1]) t (mkType L 0 (next L 8 (draw3 L g t a).2).2).2).2).1] (by simp only [bigTms, Trm.big]; omega)) rfl rfl ?_
          first | refine s_storeW ty34 rfl rfl rfl rfl rfl rfl rfl ?_ | refine s_store (ws := [_, _, _, _, _]) ty34 rfl rfl rfl rfl rfl rfl rfl rfl ?_
          refine tr_nil ⟨by kernel_rfl, ?_⟩
          refine ac_ret ?_
          refine ⟨.inr rfl, _, ⟨_, _, _, _, _, rfl, rfl, rfl, .inl (retAgg ty34 rfl), rfl⟩, ?_, ?_⟩
          · (repeat' (first | exact VLe.rfl | exact VLes.rfl | exact VLes.nil | refine VLes.cons ?_ ?_ | refine VLe.agg ?_ | refine VLe.tup ?_ | exact VLe.own | exact VLe.full | exact VLe.nils | exact VLe.any | exact VLe.clo | exact VLe.fn | refine VLe.intE ?_ | refine VLe.boolE ?_ | refine VLe.sliceE ?_ | refine VLe.ownE ?_ | refine VLe.ownO ?_ | refine VLe.fullE ?_ | refine VLe.nilsE ?_))
          · (refine sigTo_at ?_; (repeat' (first | exact trivial | refine ⟨⟨_, rfl, ?_⟩, ?_⟩ | exact OLe.rfl | refine OLe.cells ?_ | exact VLe.rfl | exact VLes.rfl | exact VLes.nil | refine VLes.cons ?_ ?_ | exact VLe.any | exact VLe.own | exact VLe.full | exact VLe.clo | exact VLe.fn | refine VLe.intE ?_ | refine VLe.boolE ?_ | refine VLe.sliceE ?_ | refine VLe.ownE ?_ | refine VLe.fullE ?_ | refine VLe.nilsE ?_)))
        · refine ac_cond rfl (fun hb => by cases hb) (fun _ => ?_)
          refine ac_ts mixed ?_
          refine t_bin rfl rfl .eql rfl rfl ?_
          refine t_assign rfl rfl rfl ?_
          refine tr_nil ?_
          refine ac_bool (fun hb3 => ?_) (fun hb3 => ?_)
          · refine ac_cond rfl (fun _ => ?_) (fun hb => by cases hb)
            have hx := hcall g t (mkType L 0 (next L 8 (draw3 L g t a).2).2).2 (by omega) ht hg (.inl hdp) hsa
            have hy := hcall g (mkType L 0 (next L 8 (draw3 L g t a).2).2).1 (mkTerm L n (dep - 1) g t (mkType L 0 (next L 8 (draw3 L g t a).2).2).2).2 (by omega) hso hg (.inl hdp) hx.2.2
            have hbx := hx.2.1
            have hby := hy.2.1
            have he : deepBody L (mkTerm L n (dep - 1)) g t (next L 8 (draw3 L g t a).2).1 (next L 8 (draw3 L g t a).2).2 = some (tm 11 [tm 10 [(mkTerm L n (dep - 1) g t (mkType L 0 (next L 8 (draw3 L g t a).2).2).2).1, (mkTerm L n (dep - 1) g (mkType L 0 (next L 8 (draw3 L g t a).2).2).1 (mkTerm L n (dep - 1) g t (mkType L 0 (next L 8 (draw3 L g t a).2).2).2).2).1]], (mkTerm L n (dep - 1) g (mkType L 0 (next L 8 (draw3 L g t a).2).2).1 (mkTerm L n (dep - 1) g t (mkType L 0 (next L 8 (draw3 L g t a).2).2).2).2).2) := by unfold deepBody; simp only [hb2, hb3, if_true, Bool.false_eq_true, if_false]
            simp only [hb1, he, if_true, Option.getD_some]
            refine ac_ts mixed ?_
            refine t_move rfl rfl rfl ?_
            first | refine s_callSF rfl .rfl (Type0_ev L hL _ hc8) rfl rfl rfl rfl rfl ?_ | refine s_callSF rfl (by (repeat' (first | exact VLes.rfl | exact VLes.nil | exact VLe.rfl | refine VLes.cons ?_ ?_ | exact VLe.own | exact VLe.full | exact VLe.nils | refine VLe.agg ?_ | exact VLe.fullE (dTms_one _) | exact VLe.fullE (dTms_two _ _) | exact VLe.fullE (dTms_three _ _ _) | exact VLe.fullE (dTys_one _) | exact VLe.fullE (dTys_two _ _) | exact VLe.fullE (dTys_three _ _ _)))) (Type0_ev L hL _ hc8) rfl rfl rfl rfl rfl ?_
            refine s_alloc 11 zer30 rfl rfl rfl rfl ?_
            first | refine s_storeW ty30 rfl rfl rfl rfl rfl rfl rfl ?_ | refine s_store (ws := [_, _]) ty30 rfl rfl rfl rfl rfl rfl rfl rfl ?_
            refine tr_nil ?_
            refine ac_ds mixed ?_
            refine t_move rfl rfl rfl ?_
            refine t_move rfl rfl rfl ?_
            first | refine t_load ty30 rfl rfl rfl rfl rfl rfl ?_ | refine s_loadWc ty30 rfl rfl rfl rfl ?_ | refine t_loadN (us := [_, _]) ty30 rfl rfl rfl rfl rfl rfl ?_ | refine t_loadNc (us := [_, _]) ty30 rfl rfl rfl rfl rfl ?_
            refine t_move rfl rfl rfl ?_
            refine s_bin (r' := .int .i64 (dep - 1)) rfl rfl .sub (by rw [hwr]) rfl rfl ?_
            first | refine s_callSF rfl .rfl (hx.1) rfl rfl rfl rfl rfl ?_ | refine s_callSF rfl (by (repeat' (first | exact VLes.rfl | exact VLes.nil | exact VLe.rfl | refine VLes.cons ?_ ?_ | exact VLe.own | exact VLe.full | exact VLe.nils | refine VLe.agg ?_ | exact VLe.fullE (dTms_one _) | exact VLe.fullE (dTms_two _ _) | exact VLe.fullE (dTms_three _ _ _) | exact VLe.fullE (dTys_one _) | exact VLe.fullE (dTys_two _ _) | exact VLe.fullE (dTys_three _ _ _)))) (hx.1) rfl rfl rfl rfl rfl ?_
            refine t_move rfl rfl rfl ?_
            refine t_move rfl rfl rfl ?_
            first | refine t_load ty30 rfl rfl rfl rfl rfl rfl ?_ | refine s_loadWc ty30 rfl rfl rfl rfl ?_ | refine t_loadN (us := [_, _]) ty30 rfl rfl rfl rfl rfl rfl ?_ | refine t_loadNc (us := [_, _]) ty30 rfl rfl rfl rfl rfl ?_
            refine t_move rfl rfl rfl ?_
            refine s_bin (r' := .int .i64 (dep - 1)) rfl rfl .sub (by rw [hwr]) rfl rfl ?_
            first | refine s_callSF rfl .rfl (hy.1) rfl rfl rfl rfl rfl ?_ | refine s_callSF rfl (by (repeat' (first | exact VLes.rfl | exact VLes.nil | exact VLe.rfl | refine VLes.cons ?_ ?_ | exact VLe.own | exact VLe.full | exact VLe.nils | refine VLe.agg ?_ | exact VLe.fullE (dTms_one _) | exact VLe.fullE (dTms_two _ _) | exact VLe.fullE (dTms_three _ _ _) | exact VLe.fullE (dTys_one _) | exact VLe.fullE (dTys_two _ _) | exact VLe.fullE (dTys_three _ _ _)))) (hy.1) rfl rfl rfl rfl rfl ?_
            first | refine t_buildSlice sli32 (Opds.ofL rfl) (.cons (.agg .rfl) (.cons (.agg .rfl) .nil)) (by intro x hx; simp only [List.mem_cons, List.not_mem_nil, or_false] at hx; rcases hx with rfl | rfl <;> rfl) rfl rfl rfl rfl ?_ | refine t_buildSlice sli32 (Opds.ofL rfl) (Elems.ofL rfl) (by intro x hx; simp only [List.mem_cons, List.not_mem_nil, or_false] at hx; rcases hx with rfl | rfl <;> rfl) rfl rfl rfl rfl ?_
            first | refine s_callF rfl .rfl (N_ev 10 [(mkTerm L n (dep - 1) g t (mkType L 0 (next L 8 (draw3 L g t a).2).2).2).1, (mkTerm L n (dep - 1) g (mkType L 0 (next L 8 (draw3 L g t a).2).2).1 (mkTerm L n (dep - 1) g t (mkType L 0 (next L 8 (draw3 L g t a).2).2).2).2).1] (by simp only [bigTms]; omega)) rfl rfl ?_ | refine s_callF rfl (by (repeat' (first | exact VLes.rfl | exact VLes.nil | exact VLe.rfl | refine VLes.cons ?_ ?_ | exact VLe.own | exact VLe.full | exact VLe.nils | refine VLe.agg ?_ | exact VLe.fullE (dTms_one _) | exact VLe.fullE (dTms_two _ _) | exact VLe.fullE (dTms_three _ _ _) | exact VLe.fullE (dTys_one _) | exact VLe.fullE (dTys_two _ _) | exact VLe.fullE (dTys_three _ _ _)))) (N_ev 10 [(mkTerm L n (dep - 1) g t (mkType L 0 (next L 8 (draw3 L g t a).2).2).2).1, (mkTerm L n (dep - 1) g (mkType L 0 (next L 8 (draw3 L g t a).2).2).1 (mkTerm L n (dep - 1) g t (mkType L 0 (next L 8 (draw3 L g t a).2).2).2).2).1] (by simp only [bigTms]; omega)) rfl rfl ?_
            first | refine t_buildSlice sli32 (Opds.ofL rfl) (.cons (.agg .rfl) .nil) (by intro x hx; simp only [List.mem_cons, List.not_mem_nil, or_false] at hx; rcases hx with rfl <;> rfl) rfl rfl rfl rfl ?_ | refine t_buildSlice sli32 (Opds.ofL rfl) (Elems.ofL rfl) (by intro x hx; simp only [List.mem_cons, List.not_mem_nil, or_false] at hx; rcases hx with rfl <;> rfl) rfl rfl rfl rfl ?_
            first | refine s_callF rfl .rfl (N_ev 11 [tm 10 [(mkTerm L n (dep - 1) g t (mkType L 0 (next L 8 (draw3 L g t a).2).2).2).1, (mkTerm L n (dep - 1) g (mkType L 0 (next L 8 (draw3 L g t a).2).2).1 (mkTerm L n (dep - 1) g t (mkType L 0 (next L 8 (draw3 L g t a).2).2).2).2).1]] (by simp only [bigTms, tm, Trm.big, Typ.zero, Typ.sz, szTys]; omega)) rfl rfl ?_ | refine s_callF rfl (by (repeat' (first | exact VLes.rfl | exact VLes.nil | exact VLe.rfl | refine VLes.cons ?_ ?_ | exact VLe.own | exact VLe.full | exact VLe.nils | refine VLe.agg ?_ | exact VLe.fullE (dTms_one _) | exact VLe.fullE (dTms_two _ _) | exact VLe.fullE (dTms_three _ _ _) | exact VLe.fullE (dTys_one _) | exact VLe.fullE (dTys_two _ _) | exact VLe.fullE (dTys_three _ _ _)))) (N_ev 11 [tm 10 [(mkTerm L n (dep - 1) g t (mkType L 0 (next L 8 (draw3 L g t a).2).2).2).1, (mkTerm L n (dep - 1) g (mkType L 0 (next L 8 (draw3 L g t a).2).2).1 (mkTerm L n (dep - 1) g t (mkType L 0 (next L 8 (draw3 L g t a).2).2).2).2).1]] (by simp only [bigTms, tm, Trm.big, Typ.zero, Typ.sz, szTys]; omega)) rfl rfl ?_
            first | refine s_storeW ty34 rfl rfl rfl rfl rfl rfl rfl ?_ | refine s_store (ws := [_, _, _, _, _]) ty34 rfl rfl rfl rfl rfl rfl rfl rfl ?_
            refine tr_nil ⟨by kernel_rfl, ?_⟩
            refine ac_ret ?_
            refine ⟨.inr rfl, _, ⟨_, _, _, _, _, rfl, rfl, rfl, .inl (retAgg ty34 rfl), rfl⟩, ?_, ?_⟩
            · (repeat' (first | exact VLe.rfl | exact VLes.rfl | exact VLes.nil | refine VLes.cons ?_ ?_ | refine VLe.agg ?_ | refine VLe.tup ?_ | exact VLe.own | exact VLe.full | exact VLe.nils | exact VLe.any | exact VLe.clo | exact VLe.fn | refine VLe.intE ?_ | refine VLe.boolE ?_ | refine VLe.sliceE ?_ | refine VLe.ownE ?_ | refine VLe.ownO ?_ | refine VLe.fullE ?_ | refine VLe.nilsE ?_))
            · (refine sigTo_at ?_; (repeat' (first | exact trivial | refine ⟨⟨_, rfl, ?_⟩, ?_⟩ | exact OLe.rfl | refine OLe.cells ?_ | exact VLe.rfl | exact VLes.rfl | exact VLes.nil | refine VLes.cons ?_ ?_ | exact VLe.any | exact VLe.own | exact VLe.full | exact VLe.clo | exact VLe.fn | refine VLe.intE ?_ | refine VLe.boolE ?_ | refine VLe.sliceE ?_ | refine VLe.ownE ?_ | refine VLe.fullE ?_ | refine VLe.nilsE ?_)))
          · refine ac_cond rfl (fun hb => by cases hb) (fun _ => ?_)
            refine ac_ts mixed ?_
            refine t_bin rfl rfl .eql rfl rfl ?_
            refine t_assign rfl rfl rfl ?_
            refine tr_nil ?_
            refine ac_bool (fun hb4 => ?_) (fun hb4 => ?_)
            · refine ac_cond rfl (fun _ => ?_) (fun hb => by cases hb)
              have hx := hcall (g ++ [Typ.nat, t]) t (next L 8 (draw3 L g t a).2).2 (by simp) ht (ext2 hg (by decide) ht) (.inl hdp) hc8
              have hy := hcall g t (mkTerm L n (dep - 1) (g ++ [Typ.nat, t]) t (next L 8 (draw3 L g t a).2).2).2 (by omega) ht hg (.inl hdp) hx.2.2
              have hbx := hx.2.1
              have hby := hy.2.1
              have hz := next_at L 3 hy.2.2
              have hzr := next_range L (mkTerm L n (dep - 1) g t (mkTerm L n (dep - 1) (g ++ [Typ.nat, t]) t (next L 8 (draw3 L g t a).2).2).2).2 (show (1 : Int) ≤ 3 by omega) (by omega)
              have hzn : (next L 3 (mkTerm L n (dep - 1) g t (mkTerm L n (dep - 1) (g ++ [Typ.nat, t]) t (next L 8 (draw3 L g t a).2).2).2).2).1 = ((next L 3 (mkTerm L n (dep - 1) g t (mkTerm L n (dep - 1) (g ++ [Typ.nat, t]) t (next L 8 (draw3 L g t a).2).2).2).2).1.toNat : Int) := by omega
              have hbz := num_big (next L 3 (mkTerm L n (dep - 1) g t (mkTerm L n (dep - 1) (g ++ [Typ.nat, t]) t (next L 8 (draw3 L g t a).2).2).2).2).1.toNat
              have he : deepBody L (mkTerm L n (dep - 1)) g t (next L 8 (draw3 L g t a).2).1 (next L 8 (draw3 L g t a).2).2 = some (.mk 6 0 t [(mkTerm L n (dep - 1) g t (mkTerm L n (dep - 1) (g ++ [Typ.nat, t]) t (next L 8 (draw3 L g t a).2).2).2).1, .mk 2 0 .nat [.mk 2 0 t [(mkTerm L n (dep - 1) (g ++ [Typ.nat, t]) t (next L 8 (draw3 L g t a).2).2).1]], num (next L 3 (mkTerm L n (dep - 1) g t (mkTerm L n (dep - 1) (g ++ [Typ.nat, t]) t (next L 8 (draw3 L g t a).2).2).2).2).1.toNat], (next L 3 (mkTerm L n (dep - 1) g t (mkTerm L n (dep - 1) (g ++ [Typ.nat, t]) t (next L 8 (draw3 L g t a).2).2).2).2).2) := by unfold deepBody; simp only [hb2, hb3, hb4, if_true, Bool.false_eq_true, if_false]
              simp only [hb1, he, if_true, Option.getD_some]
              refine ac_ds mixed ?_
              first | refine s_callF rfl .rfl (r1_Nat_ev) rfl rfl ?_ | refine s_callF rfl (by (repeat' (first | exact VLes.rfl | exact VLes.nil | exact VLe.rfl | refine VLes.cons ?_ ?_ | exact VLe.own | exact VLe.full | exact VLe.nils | refine VLe.agg ?_ | exact VLe.fullE (dTms_one _) | exact VLe.fullE (dTms_two _ _) | exact VLe.fullE (dTms_three _ _ _) | exact VLe.fullE (dTys_one _) | exact VLe.fullE (dTys_two _ _) | exact VLe.fullE (dTys_three _ _ _)))) (r1_Nat_ev) rfl rfl ?_
              first | refine t_load ty30 rfl rfl rfl rfl rfl rfl ?_ | refine s_loadWc ty30 rfl rfl rfl rfl ?_ | refine t_loadN (us := [_, _]) ty30 rfl rfl rfl rfl rfl rfl ?_ | refine t_loadNc (us := [_, _]) ty30 rfl rfl rfl rfl rfl ?_
              refine t_move rfl rfl rfl ?_
              refine t_move rfl rfl rfl ?_
              first | refine s_callF rfl .rfl (r1_Nat_ev) rfl rfl ?_ | refine s_callF rfl (by (repeat' (first | exact VLes.rfl | exact VLes.nil | exact VLe.rfl | refine VLes.cons ?_ ?_ | exact VLe.own | exact VLe.full | exact VLe.nils | refine VLe.agg ?_ | exact VLe.fullE (dTms_one _) | exact VLe.fullE (dTms_two _ _) | exact VLe.fullE (dTms_three _ _ _) | exact VLe.fullE (dTys_one _) | exact VLe.fullE (dTys_two _ _) | exact VLe.fullE (dTys_three _ _ _)))) (r1_Nat_ev) rfl rfl ?_
              first | refine t_load ty30 rfl rfl rfl rfl rfl rfl ?_ | refine s_loadWc ty30 rfl rfl rfl rfl ?_ | refine t_loadN (us := [_, _]) ty30 rfl rfl rfl rfl rfl rfl ?_ | refine t_loadNc (us := [_, _]) ty30 rfl rfl rfl rfl rfl ?_
              first | refine t_buildSlice sli27 (Opds.ofL rfl) (.cons (.agg .rfl) (.cons (.agg .rfl) .nil)) (by intro x hx; simp only [List.mem_cons, List.not_mem_nil, or_false] at hx; rcases hx with rfl | rfl <;> rfl) rfl rfl rfl rfl ?_ | refine t_buildSlice sli27 (Opds.ofL rfl) (Elems.ofL rfl) (by intro x hx; simp only [List.mem_cons, List.not_mem_nil, or_false] at hx; rcases hx with rfl | rfl <;> rfl) rfl rfl rfl rfl ?_
              first | refine s_callF rfl .rfl (longer_ev g [Typ.nat, t] (by simp; omega)) rfl rfl ?_ | refine s_callF rfl (by (repeat' (first | exact VLes.rfl | exact VLes.nil | exact VLe.rfl | refine VLes.cons ?_ ?_ | exact VLe.own | exact VLe.full | exact VLe.nils | refine VLe.agg ?_ | exact VLe.fullE (dTms_one _) | exact VLe.fullE (dTms_two _ _) | exact VLe.fullE (dTms_three _ _ _) | exact VLe.fullE (dTys_one _) | exact VLe.fullE (dTys_two _ _) | exact VLe.fullE (dTys_three _ _ _)))) (longer_ev g [Typ.nat, t] (by simp; omega)) rfl rfl ?_
              first | refine t_load ty30 rfl rfl rfl rfl rfl rfl ?_ | refine s_loadWc ty30 rfl rfl rfl rfl ?_ | refine t_loadN (us := [_, _]) ty30 rfl rfl rfl rfl rfl rfl ?_ | refine t_loadNc (us := [_, _]) ty30 rfl rfl rfl rfl rfl ?_
              refine t_move rfl rfl rfl ?_
              refine s_bin (r' := .int .i64 (dep - 1)) rfl rfl .sub (by rw [hwr]) rfl rfl ?_
              first | refine s_callSF rfl .rfl (hx.1) rfl rfl rfl rfl rfl ?_ | refine s_callSF rfl (by (repeat' (first | exact VLes.rfl | exact VLes.nil | exact VLe.rfl | refine VLes.cons ?_ ?_ | exact VLe.own | exact VLe.full | exact VLe.nils | refine VLe.agg ?_ | exact VLe.fullE (dTms_one _) | exact VLe.fullE (dTms_two _ _) | exact VLe.fullE (dTms_three _ _ _) | exact VLe.fullE (dTys_one _) | exact VLe.fullE (dTys_two _ _) | exact VLe.fullE (dTys_three _ _ _)))) (hx.1) rfl rfl rfl rfl rfl ?_
              first | refine t_buildSlice sli32 (Opds.ofL rfl) (.cons (.agg .rfl) .nil) (by intro x hx; simp only [List.mem_cons, List.not_mem_nil, or_false] at hx; rcases hx with rfl <;> rfl) rfl rfl rfl rfl ?_ | refine t_buildSlice sli32 (Opds.ofL rfl) (Elems.ofL rfl) (by intro x hx; simp only [List.mem_cons, List.not_mem_nil, or_false] at hx; rcases hx with rfl <;> rfl) rfl rfl rfl rfl ?_
              first | refine s_callF rfl .rfl (T_ev 2 t (by omega) [(mkTerm L n (dep - 1) (g ++ [Typ.nat, t]) t (next L 8 (draw3 L g t a).2).2).1] (by simp only [bigTms]; omega)) rfl rfl ?_ | refine s_callF rfl (by (repeat' (first | exact VLes.rfl | exact VLes.nil | exact VLe.rfl | refine VLes.cons ?_ ?_ | exact VLe.own | exact VLe.full | exact VLe.nils | refine VLe.agg ?_ | exact VLe.fullE (dTms_one _) | exact VLe.fullE (dTms_two _ _) | exact VLe.fullE (dTms_three _ _ _) | exact VLe.fullE (dTys_one _) | exact VLe.fullE (dTys_two _ _) | exact VLe.fullE (dTys_three _ _ _)))) (T_ev 2 t (by omega) [(mkTerm L n (dep - 1) (g ++ [Typ.nat, t]) t (next L 8 (draw3 L g t a).2).2).1] (by simp only [bigTms]; omega)) rfl rfl ?_
              first | refine t_buildSlice sli32 (Opds.ofL rfl) (.cons (.agg .rfl) .nil) (by intro x hx; simp only [List.mem_cons, List.not_mem_nil, or_false] at hx; rcases hx with rfl <;> rfl) rfl rfl rfl rfl ?_ | refine t_buildSlice sli32 (Opds.ofL rfl) (Elems.ofL rfl) (by intro x hx; simp only [List.mem_cons, List.not_mem_nil, or_false] at hx; rcases hx with rfl <;> rfl) rfl rfl rfl rfl ?_
              first | refine s_callF rfl .rfl (T_ev 2 Typ.nat (by decide) [.mk 2 0 t [(mkTerm L n (dep - 1) (g ++ [Typ.nat, t]) t (next L 8 (draw3 L g t a).2).2).1]] (by simp only [bigTms, Trm.big]; omega)) rfl rfl ?_ | refine s_callF rfl (by (repeat' (first | exact VLes.rfl | exact VLes.nil | exact VLe.rfl | refine VLes.cons ?_ ?_ | exact VLe.own | exact VLe.full | exact VLe.nils | refine VLe.agg ?_ | exact VLe.fullE (dTms_one _) | exact VLe.fullE (dTms_two _ _) | exact VLe.fullE (dTms_three _ _ _) | exact VLe.fullE (dTys_one _) | exact VLe.fullE (dTys_two _ _) | exact VLe.fullE (dTys_three _ _ _)))) (T_ev 2 Typ.nat (by decide) [.mk 2 0 t [(mkTerm L n (dep - 1) (g ++ [Typ.nat, t]) t (next L 8 (draw3 L g t a).2).2).1]] (by simp only [bigTms, Trm.big]; omega)) rfl rfl ?_
              refine s_alloc 12 zer34 rfl rfl rfl rfl ?_
              first | refine s_storeW ty34 rfl rfl rfl rfl rfl rfl rfl ?_ | refine s_store (ws := [_, _, _, _, _]) ty34 rfl rfl rfl rfl rfl rfl rfl rfl ?_
              refine tr_nil ⟨by kernel_rfl, ?_⟩
              refine ac_ds mixed ?_
              first | refine t_load ty30 rfl rfl rfl rfl rfl rfl ?_ | refine s_loadWc ty30 rfl rfl rfl rfl ?_ | refine t_loadN (us := [_, _]) ty30 rfl rfl rfl rfl rfl rfl ?_ | refine t_loadNc (us := [_, _]) ty30 rfl rfl rfl rfl rfl ?_
              refine t_move rfl rfl rfl ?_
              refine t_move rfl rfl rfl ?_
              first | refine t_load ty30 rfl rfl rfl rfl rfl rfl ?_ | refine s_loadWc ty30 rfl rfl rfl rfl ?_ | refine t_loadN (us := [_, _]) ty30 rfl rfl rfl rfl rfl rfl ?_ | refine t_loadNc (us := [_, _]) ty30 rfl rfl rfl rfl rfl ?_
              refine t_move rfl rfl rfl ?_
              refine s_bin (r' := .int .i64 (dep - 1)) rfl rfl .sub (by rw [hwr]) rfl rfl ?_
              first | refine s_callSF rfl .rfl (hy.1) rfl rfl rfl rfl rfl ?_ | refine s_callSF rfl (by (repeat' (first | exact VLes.rfl | exact VLes.nil | exact VLe.rfl | refine VLes.cons ?_ ?_ | exact VLe.own | exact VLe.full | exact VLe.nils | refine VLe.agg ?_ | exact VLe.fullE (dTms_one _) | exact VLe.fullE (dTms_two _ _) | exact VLe.fullE (dTms_three _ _ _) | exact VLe.fullE (dTys_one _) | exact VLe.fullE (dTys_two _ _) | exact VLe.fullE (dTys_three _ _ _)))) (hy.1) rfl rfl rfl rfl rfl ?_
              first | refine t_load ty34 rfl rfl rfl rfl rfl rfl ?_ | refine s_loadWc ty34 rfl rfl rfl rfl ?_ | refine t_loadN (us := [_, _, _, _, _]) ty34 rfl rfl rfl rfl rfl rfl ?_ | refine t_loadNc (us := [_, _, _, _, _]) ty34 rfl rfl rfl rfl rfl ?_
              refine t_move rfl rfl rfl ?_
              first | refine s_callSF rfl .rfl (Next_ev L hL 3 _ hy.2.2) rfl rfl rfl rfl rfl ?_ | refine s_callSF rfl (by (repeat' (first | exact VLes.rfl | exact VLes.nil | exact VLe.rfl | refine VLes.cons ?_ ?_ | exact VLe.own | exact VLe.full | exact VLe.nils | refine VLe.agg ?_ | exact VLe.fullE (dTms_one _) | exact VLe.fullE (dTms_two _ _) | exact VLe.fullE (dTms_three _ _ _) | exact VLe.fullE (dTys_one _) | exact VLe.fullE (dTys_two _ _) | exact VLe.fullE (dTys_three _ _ _)))) (Next_ev L hL 3 _ hy.2.2) rfl rfl rfl rfl rfl ?_
              rw [hzn]
              first | refine s_callF rfl .rfl (Num_ev (next L 3 (mkTerm L n (dep - 1) g t (mkTerm L n (dep - 1) (g ++ [Typ.nat, t]) t (next L 8 (draw3 L g t a).2).2).2).2).1.toNat (by omega)) rfl rfl ?_ | refine s_callF rfl (by (repeat' (first | exact VLes.rfl | exact VLes.nil | exact VLe.rfl | refine VLes.cons ?_ ?_ | exact VLe.own | exact VLe.full | exact VLe.nils | refine VLe.agg ?_ | exact VLe.fullE (dTms_one _) | exact VLe.fullE (dTms_two _ _) | exact VLe.fullE (dTms_three _ _ _) | exact VLe.fullE (dTys_one _) | exact VLe.fullE (dTys_two _ _) | exact VLe.fullE (dTys_three _ _ _)))) (Num_ev (next L 3 (mkTerm L n (dep - 1) g t (mkTerm L n (dep - 1) (g ++ [Typ.nat, t]) t (next L 8 (draw3 L g t a).2).2).2).2).1.toNat (by omega)) rfl rfl ?_
              first | refine t_buildSlice sli32 (Opds.ofL rfl) (.cons (.agg .rfl) (.cons (.agg .rfl) (.cons (.agg .rfl) .nil))) (by intro x hx; simp only [List.mem_cons, List.not_mem_nil, or_false] at hx; rcases hx with rfl | rfl | rfl <;> rfl) rfl rfl rfl rfl ?_ | refine t_buildSlice sli32 (Opds.ofL rfl) (Elems.ofL rfl) (by intro x hx; simp only [List.mem_cons, List.not_mem_nil, or_false] at hx; rcases hx with rfl | rfl | rfl <;> rfl) rfl rfl rfl rfl ?_
              first | refine s_callF rfl .rfl (T_ev 6 t (by omega) [(mkTerm L n (dep - 1) g t (mkTerm L n (dep - 1) (g ++ [Typ.nat, t]) t (next L 8 (draw3 L g t a).2).2).2).1, .mk 2 0 .nat [.mk 2 0 t [(mkTerm L n (dep - 1) (g ++ [Typ.nat, t]) t (next L 8 (draw3 L g t a).2).2).1]], num (next L 3 (mkTerm L n (dep - 1) g t (mkTerm L n (dep - 1) (g ++ [Typ.nat, t]) t (next L 8 (draw3 L g t a).2).2).2).2).1.toNat] (by have z1 : Typ.nat.sz = 1 := rfl; simp only [bigTms, Trm.big, z1]; omega)) rfl rfl ?_ | refine s_callF rfl (by (repeat' (first | exact VLes.rfl | exact VLes.nil | exact VLe.rfl | refine VLes.cons ?_ ?_ | exact VLe.own | exact VLe.full | exact VLe.nils | refine VLe.agg ?_ | exact VLe.fullE (dTms_one _) | exact VLe.fullE (dTms_two _ _) | exact VLe.fullE (dTms_three _ _ _) | exact VLe.fullE (dTys_one _) | exact VLe.fullE (dTys_two _ _) | exact VLe.fullE (dTys_three _ _ _)))) (T_ev 6 t (by omega) [(mkTerm L n (dep - 1) g t (mkTerm L n (dep - 1) (g ++ [Typ.nat, t]) t (next L 8 (draw3 L g t a).2).2).2).1, .mk 2 0 .nat [.mk 2 0 t [(mkTerm L n (dep - 1) (g ++ [Typ.nat, t]) t (next L 8 (draw3 L g t a).2).2).1]], num (next L 3 (mkTerm L n (dep - 1) g t (mkTerm L n (dep - 1) (g ++ [Typ.nat, t]) t (next L 8 (draw3 L g t a).2).2).2).2).1.toNat] (by have z1 : Typ.nat.sz = 1 := rfl; simp only [bigTms, Trm.big, z1]; omega)) rfl rfl ?_
              first | refine s_storeW ty34 rfl rfl rfl rfl rfl rfl rfl ?_ | refine s_store (ws := [_, _, _, _, _]) ty34 rfl rfl rfl rfl rfl rfl rfl rfl ?_
              refine tr_nil ⟨by kernel_rfl, ?_⟩
              refine ac_ret ?_
              refine ⟨.inr rfl, _, ⟨_, _, _, _, _, rfl, rfl, rfl, .inl (retAgg ty34 rfl), rfl⟩, ?_, ?_⟩
              · (repeat' (first | exact VLe.rfl | exact VLes.rfl | exact VLes.nil | refine VLes.cons ?_ ?_ | refine VLe.agg ?_ | refine VLe.tup ?_ | exact VLe.own | exact VLe.full | exact VLe.nils | exact VLe.any | exact VLe.clo | exact VLe.fn | refine VLe.intE ?_ | refine VLe.boolE ?_ | refine VLe.sliceE ?_ | refine VLe.ownE ?_ | refine VLe.ownO ?_ | refine VLe.fullE ?_ | refine VLe.nilsE ?_))
              · (refine sigTo_at ?_; (repeat' (first | exact trivial | refine ⟨⟨_, rfl, ?_⟩, ?_⟩ | exact OLe.rfl | refine OLe.cells ?_ | exact VLe.rfl | exact VLes.rfl | exact VLes.nil | refine VLes.cons ?_ ?_ | exact VLe.any | exact VLe.own | exact VLe.full | exact VLe.clo | exact VLe.fn | refine VLe.intE ?_ | refine VLe.boolE ?_ | refine VLe.sliceE ?_ | refine VLe.ownE ?_ | refine VLe.fullE ?_ | refine VLe.nilsE ?_)))
            · refine ac_cond rfl (fun hb => by cases hb) (fun _ => ?_)
              refine ac_ts mixed ?_
              refine t_bin rfl rfl .eql rfl rfl ?_
              refine t_assign rfl rfl rfl ?_
              refine tr_nil ?_
              refine ac_bool (fun hb5 => ?_) (fun hb5 => ?_)
              · refine ac_cond rfl (fun _ => ?_) (fun hb => by cases hb)
                have hx := hcall (g ++ [Typ.nat, Typ.list, t]) t (next L 8 (draw3 L g t a).2).2 (by simp) ht (ext3 hg (by decide) (by decide) ht) (.inl hdp) hc8
                have hy := hcall g t (mkTerm L n (dep - 1) (g ++ [Typ.nat, Typ.list, t]) t (next L 8 (draw3 L g t a).2).2).2 (by omega) ht hg (.inl hdp) hx.2.2
                have hz := hcall g Typ.list (mkTerm L n (dep - 1) g t (mkTerm L n (dep - 1) (g ++ [Typ.nat, Typ.list, t]) t (next L 8 (draw3 L g t a).2).2).2).2 (by omega) (by decide) hg (.inl hdp) hy.2.2
                have hbx := hx.2.1
                have hby := hy.2.1
                have hbz := hz.2.1
                have he : deepBody L (mkTerm L n (dep - 1)) g t (next L 8 (draw3 L g t a).2).1 (next L 8 (draw3 L g t a).2).2 = some (.mk 9 0 t [(mkTerm L n (dep - 1) g t (mkTerm L n (dep - 1) (g ++ [Typ.nat, Typ.list, t]) t (next L 8 (draw3 L g t a).2).2).2).1, .mk 2 0 .nat [.mk 2 0 .list [.mk 2 0 t [(mkTerm L n (dep - 1) (g ++ [Typ.nat, Typ.list, t]) t (next L 8 (draw3 L g t a).2).2).1]]], (mkTerm L n (dep - 1) g Typ.list (mkTerm L n (dep - 1) g t (mkTerm L n (dep - 1) (g ++ [Typ.nat, Typ.list, t]) t (next L 8 (draw3 L g t a).2).2).2).2).1], (mkTerm L n (dep - 1) g Typ.list (mkTerm L n (dep - 1) g t (mkTerm L n (dep - 1) (g ++ [Typ.nat, Typ.list, t]) t (next L 8 (draw3 L g t a).2).2).2).2).2) := by unfold deepBody; simp only [hb2, hb3, hb4, hb5, if_true, Bool.false_eq_true, if_false]
                simp only [hb1, he, if_true, Option.getD_some]
                refine ac_ds mixed ?_
                first | refine s_callF rfl .rfl (r1_Nat_ev) rfl rfl ?_ | refine s_callF rfl (by (repeat' (first | exact VLes.rfl | exact VLes.nil | exact VLe.rfl | refine VLes.cons ?_ ?_ | exact VLe.own | exact VLe.full | exact VLe.nils | refine VLe.agg ?_ | exact VLe.fullE (dTms_one _) | exact VLe.fullE (dTms_two _ _) | exact VLe.fullE (dTms_three _ _ _) | exact VLe.fullE (dTys_one _) | exact VLe.fullE (dTys_two _ _) | exact VLe.fullE (dTys_three _ _ _)))) (r1_Nat_ev) rfl rfl ?_
                first | refine s_callF rfl .rfl (r1_List_ev) rfl rfl ?_ | refine s_callF rfl (by (repeat' (first | exact VLes.rfl | exact VLes.nil | exact VLe.rfl | refine VLes.cons ?_ ?_ | exact VLe.own | exact VLe.full | exact VLe.nils | refine VLe.agg ?_ | exact VLe.fullE (dTms_one _) | exact VLe.fullE (dTms_two _ _) | exact VLe.fullE (dTms_three _ _ _) | exact VLe.fullE (dTys_one _) | exact VLe.fullE (dTys_two _ _) | exact VLe.fullE (dTys_three _ _ _)))) (r1_List_ev) rfl rfl ?_
                first | refine t_load ty30 rfl rfl rfl rfl rfl rfl ?_ | refine s_loadWc ty30 rfl rfl rfl rfl ?_ | refine t_loadN (us := [_, _]) ty30 rfl rfl rfl rfl rfl rfl ?_ | refine t_loadNc (us := [_, _]) ty30 rfl rfl rfl rfl rfl ?_
                refine t_move rfl rfl rfl ?_
                refine t_move rfl rfl rfl ?_
                first | refine s_callF rfl .rfl (r1_Nat_ev) rfl rfl ?_ | refine s_callF rfl (by (repeat' (first | exact VLes.rfl | exact VLes.nil | exact VLe.rfl | refine VLes.cons ?_ ?_ | exact VLe.own | exact VLe.full | exact VLe.nils | refine VLe.agg ?_ | exact VLe.fullE (dTms_one _) | exact VLe.fullE (dTms_two _ _) | exact VLe.fullE (dTms_three _ _ _) | exact VLe.fullE (dTys_one _) | exact VLe.fullE (dTys_two _ _) | exact VLe.fullE (dTys_three _ _ _)))) (r1_Nat_ev) rfl rfl ?_
                first | refine s_callF rfl .rfl (r1_List_ev) rfl rfl ?_ | refine s_callF rfl (by (repeat' (first | exact VLes.rfl | exact VLes.nil | exact VLe.rfl | refine VLes.cons ?_ ?_ | exact VLe.own | exact VLe.full | exact VLe.nils | refine VLe.agg ?_ | exact VLe.fullE (dTms_one _) | exact VLe.fullE (dTms_two _ _) | exact VLe.fullE (dTms_three _ _ _) | exact VLe.fullE (dTys_one _) | exact VLe.fullE (dTys_two _ _) | exact VLe.fullE (dTys_three _ _ _)))) (r1_List_ev) rfl rfl ?_
                first | refine t_load ty30 rfl rfl rfl rfl rfl rfl ?_ | refine s_loadWc ty30 rfl rfl rfl rfl ?_ | refine t_loadN (us := [_, _]) ty30 rfl rfl rfl rfl rfl rfl ?_ | refine t_loadNc (us := [_, _]) ty30 rfl rfl rfl rfl rfl ?_
                first | refine t_buildSlice sli27 (Opds.ofL rfl) (.cons (.agg .rfl) (.cons (.agg .rfl) (.cons (.agg .rfl) .nil))) (by intro x hx; simp only [List.mem_cons, List.not_mem_nil, or_false] at hx; rcases hx with rfl | rfl | rfl <;> rfl) rfl rfl rfl rfl ?_ | refine t_buildSlice sli27 (Opds.ofL rfl) (Elems.ofL rfl) (by intro x hx; simp only [List.mem_cons, List.not_mem_nil, or_false] at hx; rcases hx with rfl | rfl | rfl <;> rfl) rfl rfl rfl rfl ?_
                first | refine s_callF rfl .rfl (longer_ev g [Typ.nat, Typ.list, t] (by simp; omega)) rfl rfl ?_ | refine s_callF rfl (by (repeat' (first | exact VLes.rfl | exact VLes.nil | exact VLe.rfl | refine VLes.cons ?_ ?_ | exact VLe.own | exact VLe.full | exact VLe.nils | refine VLe.agg ?_ | exact VLe.fullE (dTms_one _) | exact VLe.fullE (dTms_two _ _) | exact VLe.fullE (dTms_three _ _ _) | exact VLe.fullE (dTys_one _) | exact VLe.fullE (dTys_two _ _) | exact VLe.fullE (dTys_three _ _ _)))) (longer_ev g [Typ.nat, Typ.list, t] (by simp; omega)) rfl rfl ?_
                first | refine t_load ty30 rfl rfl rfl rfl rfl rfl ?_ | refine s_loadWc ty30 rfl rfl rfl rfl ?_ | refine t_loadN (us := [_, _]) ty30 rfl rfl rfl rfl rfl rfl ?_ | refine t_loadNc (us := [_, _]) ty30 rfl rfl rfl rfl rfl ?_
                refine t_move rfl rfl rfl ?_
                refine s_bin (r' := .int .i64 (dep - 1)) rfl rfl .sub (by rw [hwr]) rfl rfl ?_
                first | refine s_callSF rfl .rfl (hx.1) rfl rfl rfl rfl rfl ?_ | refine s_callSF rfl (by (repeat' (first | exact VLes.rfl | exact VLes.nil | exact VLe.rfl | refine VLes.cons ?_ ?_ | exact VLe.own | exact VLe.full | exact VLe.nils | refine VLe.agg ?_ | exact VLe.fullE (dTms_one _) | exact VLe.fullE (dTms_two _ _) | exact VLe.fullE (dTms_three _ _ _) | exact VLe.fullE (dTys_one _) | exact VLe.fullE (dTys_two _ _) | exact VLe.fullE (dTys_three _ _ _)))) (hx.1) rfl rfl rfl rfl rfl ?_
                first | refine t_buildSlice sli32 (Opds.ofL rfl) (.cons (.agg .rfl) .nil) (by intro x hx; simp only [List.mem_cons, List.not_mem_nil, or_false] at hx; rcases hx with rfl <;> rfl) rfl rfl rfl rfl ?_ | refine t_buildSlice sli32 (Opds.ofL rfl) (Elems.ofL rfl) (by intro x hx; simp only [List.mem_cons, List.not_mem_nil, or_false] at hx; rcases hx with rfl <;> rfl) rfl rfl rfl rfl ?_
                first | refine s_callF rfl .rfl (T_ev 2 t (by omega) [(mkTerm L n (dep - 1) (g ++ [Typ.nat, Typ.list, t]) t (next L 8 (draw3 L g t a).2).2).1] (by simp only [bigTms]; omega)) rfl rfl ?_ | refine s_callF rfl (by (repeat' (first | exact VLes.rfl | exact VLes.nil | exact VLe.rfl | refine VLes.cons ?_ ?_ | exact VLe.own | exact VLe.full | exact VLe.nils | refine VLe.agg ?_ | exact VLe.fullE (dTms_one _) | exact VLe.fullE (dTms_two _ _) | exact VLe.fullE (dTms_three _ _ _) | exact VLe.fullE (dTys_one _) | exact VLe.fullE (dTys_two _ _) | exact VLe.fullE (dTys_three _ _ _)))) (T_ev 2 t (by omega) [(mkTerm L n (dep - 1) (g ++ [Typ.nat, Typ.list, t]) t (next L 8 (draw3 L g t a).2).2).1] (by simp only [bigTms]; omega)) rfl rfl ?_
                first | refine t_buildSlice sli32 (Opds.ofL rfl) (.cons (.agg .rfl) .nil) (by intro x hx; simp only [List.mem_cons, List.not_mem_nil, or_false] at hx; rcases hx with rfl <;> rfl) rfl rfl rfl rfl ?_ | refine t_buildSlice sli32 (Opds.ofL rfl) (Elems.ofL rfl) (by intro x hx; simp only [List.mem_cons, List.not_mem_nil, or_false] at hx; rcases hx with rfl <;> rfl) rfl rfl rfl rfl ?_
                first | refine s_callF rfl .rfl (T_ev 2 Typ.list (by decide) [.mk 2 0 t [(mkTerm L n (dep - 1) (g ++ [Typ.nat, Typ.list, t]) t (next L 8 (draw3 L g t a).2).2).1]] (by simp only [bigTms, Trm.big]; omega)) rfl rfl ?_ | refine s_callF rfl (by (repeat' (first | exact VLes.rfl | exact VLes.nil | exact VLe.rfl | refine VLes.cons ?_ ?_ | exact VLe.own | exact VLe.full | exact VLe.nils | refine VLe.agg ?_ | exact VLe.fullE (dTms_one _) | exact VLe.fullE (dTms_two _ _) | exact VLe.fullE (dTms_three _ _ _) | exact VLe.fullE (dTys_one _) | exact VLe.fullE (dTys_two _ _) | exact VLe.fullE (dTys_three _ _ _)))) (T_ev 2 Typ.list (by decide) [.mk 2 0 t [(mkTerm L n (dep - 1) (g ++ [Typ.nat, Typ.list, t]) t (next L 8 (draw3 L g t a).2).2).1]] (by simp only [bigTms, Trm.big]; omega)) rfl rfl ?_
                first | refine t_buildSlice sli32 (Opds.ofL rfl) (.cons (.agg .rfl) .nil) (by intro x hx; simp only [List.mem_cons, List.not_mem_nil, or_false] at hx; rcases hx with rfl <;> rfl) rfl rfl rfl rfl ?_ | refine t_buildSlice sli32 (Opds.ofL rfl) (Elems.ofL rfl) (by intro x hx; simp only [List.mem_cons, List.not_mem_nil, or_false] at hx; rcases hx with rfl <;> rfl) rfl rfl rfl rfl ?_
                first | refine s_callF rfl .rfl (T_ev 2 Typ.nat (by decide) [.mk 2 0 .list [.mk 2 0 t [(mkTerm L n (dep - 1) (g ++ [Typ.nat, Typ.list, t]) t (next L 8 (draw3 L g t a).2).2).1]]] (by have z2 : Typ.list.sz = 1 := rfl; simp only [bigTms, Trm.big, z2]; omega)) rfl rfl ?_ | refine s_callF rfl (by (repeat' (first | exact VLes.rfl | exact VLes.nil | exact VLe.rfl | refine VLes.cons ?_ ?_ | exact VLe.own | exact VLe.full | exact VLe.nils | refine VLe.agg ?_ | exact VLe.fullE (dTms_one _) | exact VLe.fullE (dTms_two _ _) | exact VLe.fullE (dTms_three _ _ _) | exact VLe.fullE (dTys_one _) | exact VLe.fullE (dTys_two _ _) | exact VLe.fullE (dTys_three _ _ _)))) (T_ev 2 Typ.nat (by decide) [.mk 2 0 .list [.mk 2 0 t [(mkTerm L n (dep - 1) (g ++ [Typ.nat, Typ.list, t]) t (next L 8 (draw3 L g t a).2).2).1]]] (by have z2 : Typ.list.sz = 1 := rfl; simp only [bigTms, Trm.big, z2]; omega)) rfl rfl ?_
                refine s_alloc 13 zer34 rfl rfl rfl rfl ?_
                first | refine s_storeW ty34 rfl rfl rfl rfl rfl rfl rfl ?_ | refine s_store (ws := [_, _, _, _, _]) ty34 rfl rfl rfl rfl rfl rfl rfl rfl ?_
                refine tr_nil ⟨by kernel_rfl, ?_⟩
                refine ac_ds mixed ?_
                first | refine t_load ty30 rfl rfl rfl rfl rfl rfl ?_ | refine s_loadWc ty30 rfl rfl rfl rfl ?_ | refine t_loadN (us := [_, _]) ty30 rfl rfl rfl rfl rfl rfl ?_ | refine t_loadNc (us := [_, _]) ty30 rfl rfl rfl rfl rfl ?_
                refine t_move rfl rfl rfl ?_
                refine t_move rfl rfl rfl ?_
                first | refine t_load ty30 rfl rfl rfl rfl rfl rfl ?_ | refine s_loadWc ty30 rfl rfl rfl rfl ?_ | refine t_loadN (us := [_, _]) ty30 rfl rfl rfl rfl rfl rfl ?_ | refine t_loadNc (us := [_, _]) ty30 rfl rfl rfl rfl rfl ?_
                refine t_move rfl rfl rfl ?_
                refine s_bin (r' := .int .i64 (dep - 1)) rfl rfl .sub (by rw [hwr]) rfl rfl ?_
                first | refine s_callSF rfl .rfl (hy.1) rfl rfl rfl rfl rfl ?_ | refine s_callSF rfl (by (repeat' (first | exact VLes.rfl | exact VLes.nil | exact VLe.rfl | refine VLes.cons ?_ ?_ | exact VLe.own | exact VLe.full | exact VLe.nils | refine VLe.agg ?_ | exact VLe.fullE (dTms_one _) | exact VLe.fullE (dTms_two _ _) | exact VLe.fullE (dTms_three _ _ _) | exact VLe.fullE (dTys_one _) | exact VLe.fullE (dTys_two _ _) | exact VLe.fullE (dTys_three _ _ _)))) (hy.1) rfl rfl rfl rfl rfl ?_
                first | refine t_load ty34 rfl rfl rfl rfl rfl rfl ?_ | refine s_loadWc ty34 rfl rfl rfl rfl ?_ | refine t_loadN (us := [_, _, _, _, _]) ty34 rfl rfl rfl rfl rfl rfl ?_ | refine t_loadNc (us := [_, _, _, _, _]) ty34 rfl rfl rfl rfl rfl ?_
                refine t_move rfl rfl rfl ?_
                refine t_move rfl rfl rfl ?_
                first | refine s_callF rfl .rfl (r1_List_ev) rfl rfl ?_ | refine s_callF rfl (by (repeat' (first | exact VLes.rfl | exact VLes.nil | exact VLe.rfl | refine VLes.cons ?_ ?_ | exact VLe.own | exact VLe.full | exact VLe.nils | refine VLe.agg ?_ | exact VLe.fullE (dTms_one _) | exact VLe.fullE (dTms_two _ _) | exact VLe.fullE (dTms_three _ _ _) | exact VLe.fullE (dTys_one _) | exact VLe.fullE (dTys_two _ _) | exact VLe.fullE (dTys_three _ _ _)))) (r1_List_ev) rfl rfl ?_
                refine t_move rfl rfl rfl ?_
                refine s_bin (r' := .int .i64 (dep - 1)) rfl rfl .sub (by rw [hwr]) rfl rfl ?_
                first | refine s_callSF rfl .rfl (hz.1) rfl rfl rfl rfl rfl ?_ | refine s_callSF rfl (by (repeat' (first | exact VLes.rfl | exact VLes.nil | exact VLe.rfl | refine VLes.cons ?_ ?_ | exact VLe.own | exact VLe.full | exact VLe.nils | refine VLe.agg ?_ | exact VLe.fullE (dTms_one _) | exact VLe.fullE (dTms_two _ _) | exact VLe.fullE (dTms_three _ _ _) | exact VLe.fullE (dTys_one _) | exact VLe.fullE (dTys_two _ _) | exact VLe.fullE (dTys_three _ _ _)))) (hz.1) rfl rfl rfl rfl rfl ?_
                first | refine t_buildSlice sli32 (Opds.ofL rfl) (.cons (.agg .rfl) (.cons (.agg .rfl) (.cons (.agg .rfl) .nil))) (by intro x hx; simp only [List.mem_cons, List.not_mem_nil, or_false] at hx; rcases hx with rfl | rfl | rfl <;> rfl) rfl rfl rfl rfl ?_ | refine t_buildSlice sli32 (Opds.ofL rfl) (Elems.ofL rfl) (by intro x hx; simp only [List.mem_cons, List.not_mem_nil, or_false] at hx; rcases hx with rfl | rfl | rfl <;> rfl) rfl rfl rfl rfl ?_
                first | refine s_callF rfl .rfl (T_ev 9 t (by omega) [(mkTerm L n (dep - 1) g t (mkTerm L n (dep - 1) (g ++ [Typ.nat, Typ.list, t]) t (next L 8 (draw3 L g t a).2).2).2).1, .mk 2 0 .nat [.mk 2 0 .list [.mk 2 0 t [(mkTerm L n (dep - 1) (g ++ [Typ.nat, Typ.list, t]) t (next L 8 (draw3 L g t a).2).2).1]]], (mkTerm L n (dep - 1) g Typ.list (mkTerm L n (dep - 1) g t (mkTerm L n (dep - 1) (g ++ [Typ.nat, Typ.list, t]) t (next L 8 (draw3 L g t a).2).2).2).2).1] (by have z1 : Typ.nat.sz = 1 := rfl; have z2 : Typ.list.sz = 1 := rfl; simp only [bigTms, Trm.big, z1, z2]; omega)) rfl rfl ?_ | refine s_callF rfl (by (repeat' (first | exact VLes.rfl | exact VLes.nil | exact VLe.rfl | refine VLes.cons ?_ ?_ | exact VLe.own | exact VLe.full | exact VLe.nils | refine VLe.agg ?_ | exact VLe.fullE (dTms_one _) | exact VLe.fullE (dTms_two _ _) | exact VLe.fullE (dTms_three _ _ _) | exact VLe.fullE (dTys_one _) | exact VLe.fullE (dTys_two _ _) | exact VLe.fullE (dTys_three _ _ _)))) (T_ev 9 t (by omega) [(mkTerm L n (dep - 1) g t (mkTerm L n (dep - 1) (g ++ [Typ.nat, Typ.list, t]) t (next L 8 (draw3 L g t a).2).2).2).1, .mk 2 0 .nat [.mk 2 0 .list [.mk 2 0 t [(mkTerm L n (dep - 1) (g ++ [Typ.nat, Typ.list, t]) t (next L 8 (draw3 L g t a).2).2).1]]], (mkTerm L n (dep - 1) g Typ.list (mkTerm L n (dep - 1) g t (mkTerm L n (dep - 1) (g ++ [Typ.nat, Typ.list, t]) t (next L 8 (draw3 L g t a).2).2).2).2).1] (by have z1 : Typ.nat.sz = 1 := rfl; have z2 : Typ.list.sz = 1 := rfl; simp only [bigTms, Trm.big, z1, z2]; omega)) rfl rfl ?_
                first | refine s_storeW ty34 rfl rfl rfl rfl rfl rfl rfl ?_ | refine s_store (ws := [_, _, _, _, _]) ty34 rfl rfl rfl rfl rfl rfl rfl rfl ?_
                refine tr_nil ⟨by kernel_rfl, ?_⟩
                refine ac_ret ?_
                refine ⟨.inr rfl, _, ⟨_, _, _, _, _, rfl, rfl, rfl, .inl (retAgg ty34 rfl), rfl⟩, ?_, ?_⟩
                · (repeat' (first | exact VLe.rfl | exact VLes.rfl | exact VLes.nil | refine VLes.cons ?_ ?_ | refine VLe.agg ?_ | refine VLe.tup ?_ | exact VLe.own | exact VLe.full | exact VLe.nils | exact VLe.any | exact VLe.clo | exact VLe.fn | refine VLe.intE ?_ | refine VLe.boolE ?_ | refine VLe.sliceE ?_ | refine VLe.ownE ?_ | refine VLe.ownO ?_ | refine VLe.fullE ?_ | refine VLe.nilsE ?_))
                · (refine sigTo_at ?_; (repeat' (first | exact trivial | refine ⟨⟨_, rfl, ?_⟩, ?_⟩ | exact OLe.rfl | refine OLe.cells ?_ | exact VLe.rfl | exact VLes.rfl | exact VLes.nil | refine VLes.cons ?_ ?_ | exact VLe.any | exact VLe.own | exact VLe.full | exact VLe.clo | exact VLe.fn | refine VLe.intE ?_ | refine VLe.boolE ?_ | refine VLe.sliceE ?_ | refine VLe.ownE ?_ | refine VLe.fullE ?_ | refine VLe.nilsE ?_)))
              · refine ac_cond rfl (fun hb => by cases hb) (fun _ => ?_)
                refine ac_ts mixed ?_
                refine t_bin rfl rfl .eql rfl rfl ?_
                refine t_assign rfl rfl rfl ?_
                refine tr_nil ?_
                refine ac_bool (fun hb6 => ?_) (fun hb6 => ?_)
                · refine ac_cond rfl (fun _ => ?_) (fun hb => by cases hb)
                  have hx := hcall g (mkType L 0 (next L 8 (draw3 L g t a).2).2).1 (mkType L 0 (next L 8 (draw3 L g t a).2).2).2 (by omega) hso hg (.inl hdp) hsa
                  have hy := hcall g t (mkTerm L n (dep - 1) g (mkType L 0 (next L 8 (draw3 L g t a).2).2).1 (mkType L 0 (next L 8 (draw3 L g t a).2).2).2).2 (by omega) ht hg (.inl hdp) hx.2.2
                  have hbx := hx.2.1
                  have hby := hy.2.1
                  have he : deepBody L (mkTerm L n (dep - 1)) g t (next L 8 (draw3 L g t a).2).1 (next L 8 (draw3 L g t a).2).2 = some (tm 12 [tm 10 [(mkTerm L n (dep - 1) g (mkType L 0 (next L 8 (draw3 L g t a).2).2).1 (mkType L 0 (next L 8 (draw3 L g t a).2).2).2).1, (mkTerm L n (dep - 1) g t (mkTerm L n (dep - 1) g (mkType L 0 (next L 8 (draw3 L g t a).2).2).1 (mkType L 0 (next L 8 (draw3 L g t a).2).2).2).2).1]], (mkTerm L n (dep - 1) g t (mkTerm L n (dep - 1) g (mkType L 0 (next L 8 (draw3 L g t a).2).2).1 (mkType L 0 (next L 8 (draw3 L g t a).2).2).2).2).2) := by unfold deepBody; simp only [hb2, hb3, hb4, hb5, hb6, if_true, Bool.false_eq_true, if_false]
                  simp only [hb1, he, if_true, Option.getD_some]
                  refine ac_ts mixed ?_
                  refine t_move rfl rfl rfl ?_
                  first | refine s_callSF rfl .rfl (Type0_ev L hL _ hc8) rfl rfl rfl rfl rfl ?_ | refine s_callSF rfl (by (repeat' (first | exact VLes.rfl | exact VLes.nil | exact VLe.rfl | refine VLes.cons ?_ ?_ | exact VLe.own | exact VLe.full | exact VLe.nils | refine VLe.agg ?_ | exact VLe.fullE (dTms_one _) | exact VLe.fullE (dTms_two _ _) | exact VLe.fullE (dTms_three _ _ _) | exact VLe.fullE (dTys_one _) | exact VLe.fullE (dTys_two _ _) | exact VLe.fullE (dTys_three _ _ _)))) (Type0_ev L hL _ hc8) rfl rfl rfl rfl rfl ?_
                  refine s_alloc 14 zer30 rfl rfl rfl rfl ?_
                  first | refine s_storeW ty30 rfl rfl rfl rfl rfl rfl rfl ?_ | refine s_store (ws := [_, _]) ty30 rfl rfl rfl rfl rfl rfl rfl rfl ?_
                  refine tr_nil ?_
                  refine ac_ds mixed ?_
                  refine t_move rfl rfl rfl ?_
                  refine t_move rfl rfl rfl ?_
                  first | refine t_load ty30 rfl rfl rfl rfl rfl rfl ?_ | refine s_loadWc ty30 rfl rfl rfl rfl ?_ | refine t_loadN (us := [_, _]) ty30 rfl rfl rfl rfl rfl rfl ?_ | refine t_loadNc (us := [_, _]) ty30 rfl rfl rfl rfl rfl ?_
                  refine t_move rfl rfl rfl ?_
                  refine s_bin (r' := .int .i64 (dep - 1)) rfl rfl .sub (by rw [hwr]) rfl rfl ?_
                  first | refine s_callSF rfl .rfl (hx.1) rfl rfl rfl rfl rfl ?_ | refine s_callSF rfl (by (repeat' (first | exact VLes.rfl | exact VLes.nil | exact VLe.rfl | refine VLes.cons ?_ ?_ | exact VLe.own | exact VLe.full | exact VLe.nils | refine VLe.agg ?_ | exact VLe.fullE (dTms_one _) | exact VLe.fullE (dTms_two _ _) | exact VLe.fullE (dTms_three _ _ _) | exact VLe.fullE (dTys_one _) | exact VLe.fullE (dTys_two _ _) | exact VLe.fullE (dTys_three _ _ _)))) (hx.1) rfl rfl rfl rfl rfl ?_
                  refine t_move rfl rfl rfl ?_
                  refine t_move rfl rfl rfl ?_
                  first | refine t_load ty30 rfl rfl rfl rfl rfl rfl ?_ | refine s_loadWc ty30 rfl rfl rfl rfl ?_ | refine t_loadN (us := [_, _]) ty30 rfl rfl rfl rfl rfl rfl ?_ | refine t_loadNc (us := [_, _]) ty30 rfl rfl rfl rfl rfl ?_
                  refine t_move rfl rfl rfl ?_
                  refine s_bin (r' := .int .i64 (dep - 1)) rfl rfl .sub (by rw [hwr]) rfl rfl ?_
                  first | refine s_callSF rfl .rfl (hy.1) rfl rfl rfl rfl rfl ?_ | refine s_callSF rfl (by (repeat' (first | exact VLes.rfl | exact VLes.nil | exact VLe.rfl | refine VLes.cons ?_ ?_ | exact VLe.own | exact VLe.full | exact VLe.nils | refine VLe.agg ?_ | exact VLe.fullE (dTms_one _) | exact VLe.fullE (dTms_two _ _) | exact VLe.fullE (dTms_three _ _ _) | exact VLe.fullE (dTys_one _) | exact VLe.fullE (dTys_two _ _) | exact VLe.fullE (dTys_three _ _ _)))) (hy.1) rfl rfl rfl rfl rfl ?_
                  first | refine t_buildSlice sli32 (Opds.ofL rfl) (.cons (.agg .rfl) (.cons (.agg .rfl) .nil)) (by intro x hx; simp only [List.mem_cons, List.not_mem_nil, or_false] at hx; rcases hx with rfl | rfl <;> rfl) rfl rfl rfl rfl ?_ | refine t_buildSlice sli32 (Opds.ofL rfl) (Elems.ofL rfl) (by intro x hx; simp only [List.mem_cons, List.not_mem_nil, or_false] at hx; rcases hx with rfl | rfl <;> rfl) rfl rfl rfl rfl ?_
                  first | refine s_callF rfl .rfl (N_ev 10 [(mkTerm L n (dep - 1) g (mkType L 0 (next L 8 (draw3 L g t a).2).2).1 (mkType L 0 (next L 8 (draw3 L g t a).2).2).2).1, (mkTerm L n (dep - 1) g t (mkTerm L n (dep - 1) g (mkType L 0 (next L 8 (draw3 L g t a).2).2).1 (mkType L 0 (next L 8 (draw3 L g t a).2).2).2).2).1] (by simp only [bigTms]; omega)) rfl rfl ?_ | refine s_callF rfl (by (repeat' (first | exact VLes.rfl | exact VLes.nil | exact VLe.rfl | refine VLes.cons ?_ ?_ | exact VLe.own | exact VLe.full | exact VLe.nils | refine VLe.agg ?_ | exact VLe.fullE (dTms_one _) | exact VLe.fullE (dTms_two _ _) | exact VLe.fullE (dTms_three _ _ _) | exact VLe.fullE (dTys_one _) | exact VLe.fullE (dTys_two _ _) | exact VLe.fullE (dTys_three _ _ _)))) (N_ev 10 [(mkTerm L n (dep - 1) g (mkType L 0 (next L 8 (draw3 L g t a).2).2).1 (mkType L 0 (next L 8 (draw3 L g t a).2).2).2).1, (mkTerm L n (dep - 1) g t (mkTerm L n (dep - 1) g (mkType L 0 (next L 8 (draw3 L g t a).2).2).1 (mkType L 0 (next L 8 (draw3 L g t a).2).2).2).2).1] (by simp only [bigTms]; omega)) rfl rfl ?_
                  first | refine t_buildSlice sli32 (Opds.ofL rfl) (.cons (.agg .rfl) .nil) (by intro x hx; simp only [List.mem_cons, List.not_mem_nil, or_false] at hx; rcases hx with rfl <;> rfl) rfl rfl rfl rfl ?_ | refine t_buildSlice sli32 (Opds.ofL rfl) (Elems.ofL rfl) (by intro x hx; simp only [List.mem_cons, List.not_mem_nil, or_false] at hx; rcases hx with rfl <;> rfl) rfl rfl rfl rfl ?_
                  first | refine s_callF rfl .rfl (N_ev 12 [tm 10 [(mkTerm L n (dep - 1) g (mkType L 0 (next L 8 (draw3 L g t a).2).2).1 (mkType L 0 (next L 8 (draw3 L g t a).2).2).2).1, (mkTerm L n (dep - 1) g t (mkTerm L n (dep - 1) g (mkType L 0 (next L 8 (draw3 L g t a).2).2).1 (mkType L 0 (next L 8 (draw3 L g t a).2).2).2).2).1]] (by simp only [bigTms, tm, Trm.big, Typ.zero, Typ.sz, szTys]; omega)) rfl rfl ?_ | refine s_callF rfl (by (repeat' (first | exact VLes.rfl | exact VLes.nil | exact VLe.rfl | refine VLes.cons ?_ ?_ | exact VLe.own | exact VLe.full | exact VLe.nils | refine VLe.agg ?_ | exact VLe.fullE (dTms_one _) | exact VLe.fullE (dTms_two _ _) | exact VLe.fullE (dTms_three _ _ _) | exact VLe.fullE (dTys_one _) | exact VLe.fullE (dTys_two _ _) | exact VLe.fullE (dTys_three _ _ _)))) (N_ev 12 [tm 10 [(mkTerm L n (dep - 1) g (mkType L 0 (next L 8 (draw3 L g t a).2).2).1 (mkType L 0 (next L 8 (draw3 L g t a).2).2).2).1, (mkTerm L n (dep - 1) g t (mkTerm L n (dep - 1) g (mkType L 0 (next L 8 (draw3 L g t a).2).2).1 (mkType L 0 (next L 8 (draw3 L g t a).2).2).2).2).1]] (by simp only [bigTms, tm, Trm.big, Typ.zero, Typ.sz, szTys]; omega)) rfl rfl ?_
                  first | refine s_storeW ty34 rfl rfl rfl rfl rfl rfl rfl ?_ | refine s_store (ws := [_, _, _, _, _]) ty34 rfl rfl rfl rfl rfl rfl rfl rfl ?_
                  refine tr_nil ⟨by kernel_rfl, ?_⟩
                  refine ac_ret ?_
                  refine ⟨.inr rfl, _, ⟨_, _, _, _, _, rfl, rfl, rfl, .inl (retAgg ty34 rfl), rfl⟩, ?_, ?_⟩
                  · (repeat' (first | exact VLe.rfl | exact VLes.rfl | exact VLes.nil | refine VLes.cons ?_ ?_ | refine VLe.agg ?_ | refine VLe.tup ?_ | exact VLe.own | exact VLe.full | exact VLe.nils | exact VLe.any | exact VLe.clo | exact VLe.fn | refine VLe.intE ?_ | refine VLe.boolE ?_ | refine VLe.sliceE ?_ | refine VLe.ownE ?_ | refine VLe.ownO ?_ | refine VLe.fullE ?_ | refine VLe.nilsE ?_))
                  · (refine sigTo_at ?_; (repeat' (first | exact trivial | refine ⟨⟨_, rfl, ?_⟩, ?_⟩ | exact OLe.rfl | refine OLe.cells ?_ | exact VLe.rfl | exact VLes.rfl | exact VLes.nil | refine VLes.cons ?_ ?_ | exact VLe.any | exact VLe.own | exact VLe.full | exact VLe.clo | exact VLe.fn | refine VLe.intE ?_ | refine VLe.boolE ?_ | refine VLe.sliceE ?_ | refine VLe.ownE ?_ | refine VLe.fullE ?_ | refine VLe.nilsE ?_)))
                · refine ac_cond rfl (fun hb => by cases hb) (fun _ => ?_)
                  refine ac_ts mixed ?_
                  refine t_bin rfl rfl .eql rfl rfl ?_
                  refine t_assign rfl rfl rfl ?_
                  refine tr_nil ?_
                  refine ac_bool (fun hb7 => ?_) (fun hb7 => ?_)
                  · refine ac_cond rfl (fun _ => ?_) (fun hb => by cases hb)
                    refine ac_ts mixed ?_
                    refine t_move rfl rfl rfl ?_
                    refine t_len rfl sli27 rfl (by constructor) rfl rfl ?_
                    refine t_move rfl rfl rfl ?_
                    refine tr_nil ?_
                    refine ac_range mixed ((dTys g).length) (fun i => [(6, .ptr 6 0), (8, .ptr 8 0), (0, .ptr 1000 0), (1, .d (.slice (dTys g))), (3, .d (.int .i64 dep))]) (fun i => [(6, some (.cells ((dTy t).map V.d) 30)), (8, some (.cells [.d (.int .i64 0), .d (.int .i64 0), .d (.int .i64 0), .d .nils, .d .nils] 34)), (1000, some (.cells [.d (.slice (dInts L)), .d (.int .i64 (next L 8 (draw3 L g t a).2).2)] 55))]) (fun i => [6, 8, 1000]) (fun i => ∀ j, j < i → funB g t j = false) (by simp) ?_ (by first | omega | (simp only [dTys_len, dTms_len, dInts_len, List.length_append, List.length_cons, List.length_nil, List.length_take]; omega)) rfl (fun i => ⟨rfl, rfl⟩) (fun i hi hI => ?_) (fun hI => ?_)
                    · (refine weak_of ?_ ?_ rfl rfl rfl <;> (repeat' (first | exact trivial | refine ⟨⟨_, rfl, ?_⟩, ?_⟩ | exact OLe.rfl | refine OLe.cells ?_ | exact VLe.rfl | exact VLes.rfl | exact VLes.nil | refine VLes.cons ?_ ?_ | refine VLe.agg ?_ | refine VLe.tup ?_ | exact VLe.own | exact VLe.full | exact VLe.nils | exact VLe.any | exact VLe.clo | exact VLe.fn | refine VLe.intE ?_ | refine VLe.boolE ?_ | refine VLe.sliceE ?_ | refine VLe.ownE ?_ | refine VLe.ownO ?_ | refine VLe.fullE ?_ | refine VLe.nilsE ?_ | refine OLe.row ?_)))
                    · rw [dTys_len] at hi
                      have hi0 : g.length - 1 - i < g.length := by omega
                      have hget := dTys_getD hi0
                      have hfo := getD_mem_ok hg hi0
                      refine ac_ts mixed ?_
                      refine t_move rfl rfl rfl ?_
                      refine t_assign rfl rfl rfl ?_
                      refine tr_nil ?_
                      refine ac_ts mixed ?_
                      refine t_move rfl rfl rfl ?_
                      refine t_move rfl rfl rfl ?_
                      refine t_len rfl sli27 rfl (by constructor) rfl rfl ?_
                      refine s_bin (r' := .int .i64 ((g.length : Int) - 1)) rfl rfl .sub (by rw [dTys_len, i64_id (by omega) (by omega)]) rfl rfl ?_
                      refine t_move rfl rfl rfl ?_
                      refine s_bin (r' := .int .i64 ((g.length - 1 - i : Nat) : Int)) rfl rfl .sub (by rw [i64_id (by omega) (by omega)]; congr 1; omega) rfl rfl ?_
                      refine t_indexAddr sli27 rfl (by constructor) rfl (Int.natCast_nonneg _) hget rfl rfl rfl ?_
                      first | refine t_load ty30 rfl rfl rfl rfl rfl rfl ?_ | refine s_loadWc ty30 rfl rfl rfl rfl ?_ | refine t_loadN (us := [_, _]) ty30 rfl rfl rfl rfl rfl rfl ?_ | refine t_loadNc (us := [_, _]) ty30 rfl rfl rfl rfl rfl ?_
                      refine s_alloc 16 zer30 rfl rfl rfl rfl ?_
                      first | refine s_storeW ty30 rfl rfl rfl rfl rfl rfl rfl ?_ | refine s_store (ws := [_, _]) ty30 rfl rfl rfl rfl rfl rfl rfl rfl ?_
                      refine tr_nil ?_
                      refine ac_ds mixed ?_
                      first | refine t_fieldAddr fld30_0 rfl rfl rfl ?_ | refine t_fieldAddr_c fld30_0 rfl rfl rfl rfl rfl ?_
                      first | refine t_load1 ty3 rfl rfl rfl rfl rfl ?_ | refine t_load1c ty3 rfl rfl rfl rfl ?_
                      refine t_bin rfl rfl .eql rfl rfl ?_
                      refine t_move rfl rfl rfl ?_
                      refine tr_bool (fun h191 => ?_) (fun h191 => ?_)
                      · have hk4 : (g.getD (g.length - 1 - i) Typ.zero).kind = 4 := by simpa using h191
                        obtain ⟨x, y, hxy, ox, oy, osz, e0, e1⟩ := two_args hfo (.inr hk4)
                        have hy64 := (okB_iff.1 oy).2
                        have hga : ∀ {m : Nat}, m < 2 → (dTys (g.getD (g.length - 1 - i) Typ.zero).args)[m]? = some (dTy ((g.getD (g.length - 1 - i) Typ.zero).args.getD m .zero)) := fun hm => dTys_getD (by rw [shape_args (okB_iff.1 hfo).1 (.inr hk4)]; exact hm)
                        first | refine t_fieldAddr fld30_1 rfl ⟨_, rfl, .inl ⟨_, rfl, rfl⟩⟩ rfl ?_ | refine t_fieldAddr_c fld30_1 rfl rfl ⟨_, rfl, .inl ⟨_, rfl, rfl⟩⟩ rfl rfl ?_
                        first | refine t_load1 ty27 rfl rfl rfl ⟨_, rfl, .inl ⟨_, rfl, rfl⟩⟩ rfl ?_ | refine t_load1c ty27 rfl rfl ⟨_, rfl, .inl ⟨_, rfl, rfl⟩⟩ rfl ?_
                        refine t_indexAddr sli27 rfl (by constructor) rfl (by decide) (hga (by decide)) rfl ⟨_, rfl, .inl ⟨_, rfl, rfl⟩⟩ rfl ?_
                        first | refine t_load ty30 rfl rfl rfl rfl ⟨_, rfl, .inl ⟨_, rfl, rfl⟩⟩ rfl ?_ | refine s_loadWc ty30 rfl rfl ⟨_, rfl, .inl ⟨_, rfl, rfl⟩⟩ rfl ?_ | refine t_loadN (us := [_, _]) ty30 rfl rfl rfl rfl ⟨_, rfl, .inl ⟨_, rfl, rfl⟩⟩ rfl ?_ | refine t_loadNc (us := [_, _]) ty30 rfl rfl rfl ⟨_, rfl, .inl ⟨_, rfl, rfl⟩⟩ rfl ?_
                        first | refine t_load ty30 rfl rfl rfl rfl ⟨_, rfl, .inl ⟨_, rfl, rfl⟩⟩ rfl ?_ | refine s_loadWc ty30 rfl rfl ⟨_, rfl, .inl ⟨_, rfl, rfl⟩⟩ rfl ?_ | refine t_loadN (us := [_, _]) ty30 rfl rfl rfl rfl ⟨_, rfl, .inl ⟨_, rfl, rfl⟩⟩ rfl ?_ | refine t_loadNc (us := [_, _]) ty30 rfl rfl rfl ⟨_, rfl, .inl ⟨_, rfl, rfl⟩⟩ rfl ?_
                        first | refine s_callF rfl .rfl (r1_Same_ev ((g.getD (g.length - 1 - i) Typ.zero).args.getD 1 .zero) (by rw [e1]; omega) t) ⟨_, rfl, .inl ⟨_, rfl, rfl⟩⟩ rfl ?_ | refine s_callF rfl (by (repeat' (first | exact VLes.rfl | exact VLes.nil | exact VLe.rfl | refine VLes.cons ?_ ?_ | exact VLe.own | exact VLe.full | exact VLe.nils | refine VLe.agg ?_ | exact VLe.fullE (dTms_one _) | exact VLe.fullE (dTms_two _ _) | exact VLe.fullE (dTms_three _ _ _) | exact VLe.fullE (dTys_one _) | exact VLe.fullE (dTys_two _ _) | exact VLe.fullE (dTys_three _ _ _)))) (r1_Same_ev ((g.getD (g.length - 1 - i) Typ.zero).args.getD 1 .zero) (by rw [e1]; omega) t) ⟨_, rfl, .inl ⟨_, rfl, rfl⟩⟩ rfl ?_
                        refine t_pick_t rfl rfl rfl rfl rfl ?_
                        refine tr_nil ⟨by kernel_rfl, ?_⟩
                        refine ac_bool (fun hb9 => ?_) (fun hb9 => ?_)
                        · refine ac_cond rfl (fun _ => ?_) (fun hb => by cases hb)
                          have hff : funB g t i = true := by simp only [funB, h191, Bool.true_and]; exact hb9
                          have hmf := mkFun_at hi hff hI
                          rw [← e0] at ox
                          have hx := hcall g ((g.getD (g.length - 1 - i) Typ.zero).args.getD 0 .zero) (next L 8 (draw3 L g t a).2).2 (by omega) ox hg (.inl hdp) hc8
                          have hbx := hx.2.1
                          have he : deepBody L (mkTerm L n (dep - 1)) g t (next L 8 (draw3 L g t a).2).1 (next L 8 (draw3 L g t a).2).2 = some (tm 3 [.var i, (mkTerm L n (dep - 1) g ((g.getD (g.length - 1 - i) Typ.zero).args.getD 0 Typ.zero) (next L 8 (draw3 L g t a).2).2).1], (mkTerm L n (dep - 1) g ((g.getD (g.length - 1 - i) Typ.zero).args.getD 0 Typ.zero) (next L 8 (draw3 L g t a).2).2).2) := by unfold deepBody; simp only [hb2, hb3, hb4, hb5, hb6, hb7, hmf, if_true, Bool.false_eq_true, if_false]
                          simp only [hb1, he, if_true, Option.getD_some]
                          refine ac_ds mixed ?_
                          refine t_move rfl rfl rfl ?_
                          first | refine s_callF rfl .rfl (r2_Var_ev _) rfl rfl ?_ | refine s_callF rfl (by (repeat' (first | exact VLes.rfl | exact VLes.nil | exact VLe.rfl | refine VLes.cons ?_ ?_ | exact VLe.own | exact VLe.full | exact VLe.nils | refine VLe.agg ?_ | exact VLe.fullE (dTms_one _) | exact VLe.fullE (dTms_two _ _) | exact VLe.fullE (dTms_three _ _ _) | exact VLe.fullE (dTys_one _) | exact VLe.fullE (dTys_two _ _) | exact VLe.fullE (dTys_three _ _ _)))) (r2_Var_ev _) rfl rfl ?_
                          refine t_move rfl rfl rfl ?_
                          refine t_move rfl rfl rfl ?_
                          first | refine t_fieldAddr fld30_1 rfl rfl rfl ?_ | refine t_fieldAddr_c fld30_1 rfl rfl rfl rfl rfl ?_
                          first | refine t_load1 ty27 rfl rfl rfl rfl rfl ?_ | refine t_load1c ty27 rfl rfl rfl rfl ?_
                          refine t_indexAddr sli27 rfl (by constructor) rfl (by decide) (hga (by decide)) rfl rfl rfl ?_
                          first | refine t_load ty30 rfl rfl rfl rfl rfl rfl ?_ | refine s_loadWc ty30 rfl rfl rfl rfl ?_ | refine t_loadN (us := [_, _]) ty30 rfl rfl rfl rfl rfl rfl ?_ | refine t_loadNc (us := [_, _]) ty30 rfl rfl rfl rfl rfl ?_
                          refine t_move rfl rfl rfl ?_
                          refine s_bin (r' := .int .i64 (dep - 1)) rfl rfl .sub (by rw [hwr]) rfl rfl ?_
                          first | refine s_callSF rfl .rfl (hx.1) rfl rfl rfl rfl rfl ?_ | refine s_callSF rfl (by (repeat' (first | exact VLes.rfl | exact VLes.nil | exact VLe.rfl | refine VLes.cons ?_ ?_ | exact VLe.own | exact VLe.full | exact VLe.nils | refine VLe.agg ?_ | exact VLe.fullE (dTms_one _) | exact VLe.fullE (dTms_two _ _) | exact VLe.fullE (dTms_three _ _ _) | exact VLe.fullE (dTys_one _) | exact VLe.fullE (dTys_two _ _) | exact VLe.fullE (dTys_three _ _ _)))) (hx.1) rfl rfl rfl rfl rfl ?_
                          first | refine t_buildSlice sli32 (Opds.ofL rfl) (.cons (.agg .rfl) (.cons (.agg .rfl) .nil)) (by intro x hx; simp only [List.mem_cons, List.not_mem_nil, or_false] at hx; rcases hx with rfl | rfl <;> rfl) rfl rfl rfl rfl ?_ | refine t_buildSlice sli32 (Opds.ofL rfl) (Elems.ofL rfl) (by intro x hx; simp only [List.mem_cons, List.not_mem_nil, or_false] at hx; rcases hx with rfl | rfl <;> rfl) rfl rfl rfl rfl ?_
                          first | refine s_callF rfl .rfl (N_ev 3 [.var i, (mkTerm L n (dep - 1) g ((g.getD (g.length - 1 - i) Typ.zero).args.getD 0 Typ.zero) (next L 8 (draw3 L g t a).2).2).1] (by have hv : (Trm.var i).big = 2 := rfl; simp only [bigTms, hv]; omega)) rfl rfl ?_ | refine s_callF rfl (by (repeat' (first | exact VLes.rfl | exact VLes.nil | exact VLe.rfl | refine VLes.cons ?_ ?_ | exact VLe.own | exact VLe.full | exact VLe.nils | refine VLe.agg ?_ | exact VLe.fullE (dTms_one _) | exact VLe.fullE (dTms_two _ _) | exact VLe.fullE (dTms_three _ _ _) | exact VLe.fullE (dTys_one _) | exact VLe.fullE (dTys_two _ _) | exact VLe.fullE (dTys_three _ _ _)))) (N_ev 3 [.var i, (mkTerm L n (dep - 1) g ((g.getD (g.length - 1 - i) Typ.zero).args.getD 0 Typ.zero) (next L 8 (draw3 L g t a).2).2).1] (by have hv : (Trm.var i).big = 2 := rfl; simp only [bigTms, hv]; omega)) rfl rfl ?_
                          first | refine s_storeW ty34 rfl rfl rfl rfl rfl rfl rfl ?_ | refine s_store (ws := [_, _, _, _, _]) ty34 rfl rfl rfl rfl rfl rfl rfl rfl ?_
                          refine tr_nil ⟨by kernel_rfl, ?_⟩
                          refine ac_ret ?_
                          refine ⟨.inr rfl, _, ⟨_, _, _, _, _, rfl, rfl, rfl, .inl (retAgg ty34 rfl), rfl⟩, ?_, ?_⟩
                          · (repeat' (first | exact VLe.rfl | exact VLes.rfl | exact VLes.nil | refine VLes.cons ?_ ?_ | refine VLe.agg ?_ | refine VLe.tup ?_ | exact VLe.own | exact VLe.full | exact VLe.nils | exact VLe.any | exact VLe.clo | exact VLe.fn | refine VLe.intE ?_ | refine VLe.boolE ?_ | refine VLe.sliceE ?_ | refine VLe.ownE ?_ | refine VLe.ownO ?_ | refine VLe.fullE ?_ | refine VLe.nilsE ?_))
                          · (refine sigTo_at ?_; (repeat' (first | exact trivial | refine ⟨⟨_, rfl, ?_⟩, ?_⟩ | exact OLe.rfl | refine OLe.cells ?_ | exact VLe.rfl | exact VLes.rfl | exact VLes.nil | refine VLes.cons ?_ ?_ | exact VLe.any | exact VLe.own | exact VLe.full | exact VLe.clo | exact VLe.fn | refine VLe.intE ?_ | refine VLe.boolE ?_ | refine VLe.sliceE ?_ | refine VLe.ownE ?_ | refine VLe.fullE ?_ | refine VLe.nilsE ?_)))
                        · refine ac_cond rfl (fun hb => by cases hb) (fun _ => ?_)
                          refine ac_skip ?_
                          show _ ∧ Weak _ _ _
                          refine ⟨fun j hj => by
                             by_cases e : j = i
                             · subst e; simp only [funB, h191, Bool.true_and]; exact hb9
                             · exact hI j (by omega), ?_⟩
                          (refine weak_of ?_ ?_ rfl rfl rfl <;> (repeat' (first | exact trivial | refine ⟨⟨_, rfl, ?_⟩, ?_⟩ | exact OLe.rfl | refine OLe.cells ?_ | exact VLe.rfl | exact VLes.rfl | exact VLes.nil | refine VLes.cons ?_ ?_ | refine VLe.agg ?_ | refine VLe.tup ?_ | exact VLe.own | exact VLe.full | exact VLe.nils | exact VLe.any | exact VLe.clo | exact VLe.fn | refine VLe.intE ?_ | refine VLe.boolE ?_ | refine VLe.sliceE ?_ | refine VLe.ownE ?_ | refine VLe.ownO ?_ | refine VLe.fullE ?_ | refine VLe.nilsE ?_ | refine OLe.row ?_)))
                      · refine t_skip ⟨_, rfl, .inl ⟨_, rfl, rfl⟩⟩ rfl ?_
                        refine t_skip ⟨_, rfl, .inl ⟨_, rfl, rfl⟩⟩ rfl ?_
                        refine t_skip ⟨_, rfl, .inl ⟨_, rfl, rfl⟩⟩ rfl ?_
                        refine t_skip ⟨_, rfl, .inl ⟨_, rfl, rfl⟩⟩ rfl ?_
                        refine t_skip ⟨_, rfl, .inl ⟨_, rfl, rfl⟩⟩ rfl ?_
                        refine t_skip ⟨_, rfl, .inl ⟨_, rfl, rfl⟩⟩ rfl ?_
                        refine t_pick_f rfl rfl rfl rfl rfl ?_
                        refine tr_nil ⟨by kernel_rfl, ?_⟩
                        refine ac_cond rfl (fun hb => by cases hb) (fun hb => ?_)
                        refine ac_skip ?_
                        show _ ∧ Weak _ _ _
                        refine ⟨fun j hj => by
                           by_cases e : j = i
                           · subst e; simp only [funB, h191, Bool.false_and]
                           · exact hI j (by omega), ?_⟩
                        (refine weak_of ?_ ?_ rfl rfl rfl <;> (repeat' (first | exact trivial | refine ⟨⟨_, rfl, ?_⟩, ?_⟩ | exact OLe.rfl | refine OLe.cells ?_ | exact VLe.rfl | exact VLes.rfl | exact VLes.nil | refine VLes.cons ?_ ?_ | refine VLe.agg ?_ | refine VLe.tup ?_ | exact VLe.own | exact VLe.full | exact VLe.nils | exact VLe.any | exact VLe.clo | exact VLe.fn | refine VLe.intE ?_ | refine VLe.boolE ?_ | refine VLe.sliceE ?_ | refine VLe.ownE ?_ | refine VLe.ownO ?_ | refine VLe.fullE ?_ | refine VLe.nilsE ?_ | refine OLe.row ?_)))
                    · have hmf := mkFun_none (g := g) (t := t) (fun j hj => hI j (by rw [dTys_len]; exact hj))
                      show ∃ a, _ ∧ Weak _ _ _
                      refine ⟨(if decide (dep > 0) then (next L 8 (draw3 L g t a).2).2 else (draw3 L g t a).2), ?_, ?_⟩
                      rotate_left
                      · rw [hb1]
                        (refine weak_of ?_ ?_ rfl rfl rfl <;> (repeat' (first | exact trivial | refine ⟨⟨_, rfl, ?_⟩, ?_⟩ | exact OLe.rfl | refine OLe.cells ?_ | exact VLe.rfl | exact VLes.rfl | exact VLes.nil | refine VLes.cons ?_ ?_ | refine VLe.agg ?_ | refine VLe.tup ?_ | exact VLe.own | exact VLe.full | exact VLe.nils | exact VLe.any | exact VLe.clo | exact VLe.fn | refine VLe.intE ?_ | refine VLe.boolE ?_ | refine VLe.sliceE ?_ | refine VLe.ownE ?_ | refine VLe.ownO ?_ | refine VLe.fullE ?_ | refine VLe.nilsE ?_ | refine OLe.row ?_)))
                      · refine ⟨?_, rfl⟩
                        rw [hb1, if_pos rfl]
                        unfold deepBody; simp only [hb2, hb3, hb4, hb5, hb6, hb7, hmf, if_true, Bool.false_eq_true, if_false]
                  · refine ac_cond rfl (fun hb => by cases hb) (fun _ => ?_)
                    refine ac_skip ?_
                    show ∃ a, _ ∧ Weak _ _ _
                    refine ⟨(if decide (dep > 0) then (next L 8 (draw3 L g t a).2).2 else (draw3 L g t a).2), ?_, ?_⟩
                    rotate_left
                    · rw [hb1]
                      (refine weak_of ?_ ?_ rfl rfl rfl <;> (repeat' (first | exact trivial | refine ⟨⟨_, rfl, ?_⟩, ?_⟩ | exact OLe.rfl | refine OLe.cells ?_ | exact VLe.rfl | exact VLes.rfl | exact VLes.nil | refine VLes.cons ?_ ?_ | refine VLe.agg ?_ | refine VLe.tup ?_ | exact VLe.own | exact VLe.full | exact VLe.nils | exact VLe.any | exact VLe.clo | exact VLe.fn | refine VLe.intE ?_ | refine VLe.boolE ?_ | refine VLe.sliceE ?_ | refine VLe.ownE ?_ | refine VLe.ownO ?_ | refine VLe.fullE ?_ | refine VLe.nilsE ?_ | refine OLe.row ?_)))
                    · refine ⟨?_, rfl⟩
                      rw [hb1, if_pos rfl]
                      unfold deepBody; simp only [hb2, hb3, hb4, hb5, hb6, hb7, if_true, Bool.false_eq_true, if_false]
      · refine ac_cond rfl (fun hb => by cases hb) (fun _ => ?_)
        refine ac_skip ?_
        show ∃ a, _ ∧ Weak _ _ _
        refine ⟨(if decide (dep > 0) then (next L 8 (draw3 L g t a).2).2 else (draw3 L g t a).2), ?_, ?_⟩
        rotate_left
        · rw [hb1]
          (refine weak_of ?_ ?_ rfl rfl rfl <;> (repeat' (first | exact trivial | refine ⟨⟨_, rfl, ?_⟩, ?_⟩ | exact OLe.rfl | refine OLe.cells ?_ | exact VLe.rfl | exact VLes.rfl | exact VLes.nil | refine VLes.cons ?_ ?_ | refine VLe.agg ?_ | refine VLe.tup ?_ | exact VLe.own | exact VLe.full | exact VLe.nils | exact VLe.any | exact VLe.clo | exact VLe.fn | refine VLe.intE ?_ | refine VLe.boolE ?_ | refine VLe.sliceE ?_ | refine VLe.ownE ?_ | refine VLe.ownO ?_ | refine VLe.fullE ?_ | refine VLe.nilsE ?_ | refine OLe.row ?_)))
        · rw [hb1]
          exact ⟨rfl, rfl⟩
    · obtain ⟨hd, ha1⟩ := hj
      rw [hd, ← ha1]
      have haa : a1 ≤ L.length := by rw [ha1]; split <;> assumption
      have hc5 := next_at L 5 haa
      have hc2 := next_at L 2 haa
      clear ha1 hd
      simp only [Option.getD_none]
      refine ac_seq ?_
      refine ac_ts mixed ?_
      first | refine t_fieldAddr fld30_0 rfl rfl rfl ?_ | refine t_fieldAddr_c fld30_0 rfl rfl rfl rfl rfl ?_
      first | refine t_load1 ty3 rfl rfl rfl rfl rfl ?_ | refine t_load1c ty3 rfl rfl rfl rfl ?_
      refine tr_nil ?_
      refine ac_block ?_
      refine ac_ts mixed ?_
      refine t_bin rfl rfl .eql rfl rfl ?_
      refine t_assign rfl rfl rfl ?_
      refine tr_nil ?_
      refine ac_bool (fun hb10 => ?_) (fun hb10 => ?_)
      · refine ac_cond rfl (fun _ => ?_) (fun hb => by cases hb)
        refine ac_seq ?_
        refine ac_ts mixed ?_
        refine t_move rfl rfl rfl ?_
        refine t_bin rfl rfl .gtr rfl rfl ?_
        refine tr_nil ?_
        refine ac_bool (fun hb11 => ?_) (fun hb11 => ?_)
        · refine ac_cond rfl (fun _ => ?_) (fun hb => by cases hb)
          have hdp : 0 < dep := by simpa using hb11
          refine ac_ts mixed ?_
          refine t_move rfl rfl rfl ?_
          first | refine s_callSF rfl .rfl (Next_ev L hL 5 _ haa) rfl rfl rfl rfl rfl ?_ | refine s_callSF rfl (by (repeat' (first | exact VLes.rfl | exact VLes.nil | exact VLe.rfl | refine VLes.cons ?_ ?_ | exact VLe.own | exact VLe.full | exact VLe.nils | refine VLe.agg ?_ | exact VLe.fullE (dTms_one _) | exact VLe.fullE (dTms_two _ _) | exact VLe.fullE (dTms_three _ _ _) | exact VLe.fullE (dTys_one _) | exact VLe.fullE (dTys_two _ _) | exact VLe.fullE (dTys_three _ _ _)))) (Next_ev L hL 5 _ haa) rfl rfl rfl rfl rfl ?_
          refine tr_nil ?_
          refine ac_block ?_
          refine ac_ts mixed ?_
          refine t_bin rfl rfl .eql rfl rfl ?_
          refine t_assign rfl rfl rfl ?_
          refine tr_nil ?_
          refine ac_bool (fun hb12 => ?_) (fun hb12 => ?_)
          · refine ac_cond rfl (fun _ => ?_) (fun hb => by cases hb)
            have hx := hcall g t (next L 5 a1).2 (by omega) ht hg (.inl hdp) hc5
            have hbx := hx.2.1
            have he : flatBody L (mkTerm L n (dep - 1)) (decide (dep > 0)) g t a1 = (tm 5 [(mkTerm L n (dep - 1) g t (next L 5 a1).2).1], (mkTerm L n (dep - 1) g t (next L 5 a1).2).2) := by unfold flatBody; simp only [hb10, hb11, hb12, if_true]
            rw [he]
            refine ac_ts mixed ?_
            refine t_move rfl rfl rfl ?_
            refine t_move rfl rfl rfl ?_
            first | refine t_load ty30 rfl rfl rfl rfl rfl rfl ?_ | refine s_loadWc ty30 rfl rfl rfl rfl ?_ | refine t_loadN (us := [_, _]) ty30 rfl rfl rfl rfl rfl rfl ?_ | refine t_loadNc (us := [_, _]) ty30 rfl rfl rfl rfl rfl ?_
            refine t_move rfl rfl rfl ?_
            refine s_bin (r' := .int .i64 (dep - 1)) rfl rfl .sub (by rw [hwr]) rfl rfl ?_
            first | refine s_callSF rfl .rfl (hx.1) rfl rfl rfl rfl rfl ?_ | refine s_callSF rfl (by (repeat' (first | exact VLes.rfl | exact VLes.nil | exact VLe.rfl | refine VLes.cons ?_ ?_ | exact VLe.own | exact VLe.full | exact VLe.nils | refine VLe.agg ?_ | exact VLe.fullE (dTms_one _) | exact VLe.fullE (dTms_two _ _) | exact VLe.fullE (dTms_three _ _ _) | exact VLe.fullE (dTys_one _) | exact VLe.fullE (dTys_two _ _) | exact VLe.fullE (dTys_three _ _ _)))) (hx.1) rfl rfl rfl rfl rfl ?_
            first | refine t_buildSlice sli32 (Opds.ofL rfl) (.cons (.agg .rfl) .nil) (by intro x hx; simp only [List.mem_cons, List.not_mem_nil, or_false] at hx; rcases hx with rfl <;> rfl) rfl rfl rfl rfl ?_ | refine t_buildSlice sli32 (Opds.ofL rfl) (Elems.ofL rfl) (by intro x hx; simp only [List.mem_cons, List.not_mem_nil, or_false] at hx; rcases hx with rfl <;> rfl) rfl rfl rfl rfl ?_
            first | refine s_callF rfl .rfl (N_ev 5 [(mkTerm L n (dep - 1) g t (next L 5 a1).2).1] (by simp only [bigTms]; omega)) rfl rfl ?_ | refine s_callF rfl (by (repeat' (first | exact VLes.rfl | exact VLes.nil | exact VLe.rfl | refine VLes.cons ?_ ?_ | exact VLe.own | exact VLe.full | exact VLe.nils | refine VLe.agg ?_ | exact VLe.fullE (dTms_one _) | exact VLe.fullE (dTms_two _ _) | exact VLe.fullE (dTms_three _ _ _) | exact VLe.fullE (dTys_one _) | exact VLe.fullE (dTys_two _ _) | exact VLe.fullE (dTys_three _ _ _)))) (N_ev 5 [(mkTerm L n (dep - 1) g t (next L 5 a1).2).1] (by simp only [bigTms]; omega)) rfl rfl ?_
            first | refine s_storeW ty34 rfl rfl rfl rfl rfl rfl rfl ?_ | refine s_store (ws := [_, _, _, _, _]) ty34 rfl rfl rfl rfl rfl rfl rfl rfl ?_
            refine tr_nil ?_
            refine ac_ret ?_
            refine ⟨.inr rfl, _, ⟨_, _, _, _, _, rfl, rfl, rfl, .inl (retAgg ty34 rfl), rfl⟩, ?_, ?_⟩
            · (repeat' (first | exact VLe.rfl | exact VLes.rfl | exact VLes.nil | refine VLes.cons ?_ ?_ | refine VLe.agg ?_ | refine VLe.tup ?_ | exact VLe.own | exact VLe.full | exact VLe.nils | exact VLe.any | exact VLe.clo | exact VLe.fn | refine VLe.intE ?_ | refine VLe.boolE ?_ | refine VLe.sliceE ?_ | refine VLe.ownE ?_ | refine VLe.ownO ?_ | refine VLe.fullE ?_ | refine VLe.nilsE ?_))
            · (refine sigTo_at ?_; (repeat' (first | exact trivial | refine ⟨⟨_, rfl, ?_⟩, ?_⟩ | exact OLe.rfl | refine OLe.cells ?_ | exact VLe.rfl | exact VLes.rfl | exact VLes.nil | refine VLes.cons ?_ ?_ | exact VLe.any | exact VLe.own | exact VLe.full | exact VLe.clo | exact VLe.fn | refine VLe.intE ?_ | refine VLe.boolE ?_ | refine VLe.sliceE ?_ | refine VLe.ownE ?_ | refine VLe.fullE ?_ | refine VLe.nilsE ?_)))
          · refine ac_cond rfl (fun hb => by cases hb) (fun _ => ?_)
            refine ac_ts mixed ?_
            refine t_bin rfl rfl .eql rfl rfl ?_
            refine t_assign rfl rfl rfl ?_
            refine tr_nil ?_
            refine ac_bool (fun hb13 => ?_) (fun hb13 => ?_)
            · refine ac_cond rfl (fun _ => ?_) (fun hb => by cases hb)
              have hpl : plusT.big ≤ 100 := by decide
              have hx := hcall g t (next L 5 a1).2 (by omega) ht hg (.inl hdp) hc5
              have hy := hcall g t (mkTerm L n (dep - 1) g t (next L 5 a1).2).2 (by omega) ht hg (.inl hdp) hx.2.2
              have hbx := hx.2.1
              have hby := hy.2.1
              have he : flatBody L (mkTerm L n (dep - 1)) (decide (dep > 0)) g t a1 = (appT plusT [(mkTerm L n (dep - 1) g t (next L 5 a1).2).1, (mkTerm L n (dep - 1) g t (mkTerm L n (dep - 1) g t (next L 5 a1).2).2).1], (mkTerm L n (dep - 1) g t (mkTerm L n (dep - 1) g t (next L 5 a1).2).2).2) := by unfold flatBody; simp only [hb10, hb11, hb12, hb13, if_true, Bool.false_eq_true, if_false]
              rw [he]
              refine ac_ds mixed ?_
              first | refine s_callF rfl .rfl (Plus_ev) rfl rfl ?_ | refine s_callF rfl (by (repeat' (first | exact VLes.rfl | exact VLes.nil | exact VLe.rfl | refine VLes.cons ?_ ?_ | exact VLe.own | exact VLe.full | exact VLe.nils | refine VLe.agg ?_ | exact VLe.fullE (dTms_one _) | exact VLe.fullE (dTms_two _ _) | exact VLe.fullE (dTms_three _ _ _) | exact VLe.fullE (dTys_one _) | exact VLe.fullE (dTys_two _ _) | exact VLe.fullE (dTys_three _ _ _)))) (Plus_ev) rfl rfl ?_
              refine t_move rfl rfl rfl ?_
              refine t_move rfl rfl rfl ?_
              first | refine t_load ty30 rfl rfl rfl rfl rfl rfl ?_ | refine s_loadWc ty30 rfl rfl rfl rfl ?_ | refine t_loadN (us := [_, _]) ty30 rfl rfl rfl rfl rfl rfl ?_ | refine t_loadNc (us := [_, _]) ty30 rfl rfl rfl rfl rfl ?_
              refine t_move rfl rfl rfl ?_
              refine s_bin (r' := .int .i64 (dep - 1)) rfl rfl .sub (by rw [hwr]) rfl rfl ?_
              first | refine s_callSF rfl .rfl (hx.1) rfl rfl rfl rfl rfl ?_ | refine s_callSF rfl (by (repeat' (first | exact VLes.rfl | exact VLes.nil | exact VLe.rfl | refine VLes.cons ?_ ?_ | exact VLe.own | exact VLe.full | exact VLe.nils | refine VLe.agg ?_ | exact VLe.fullE (dTms_one _) | exact VLe.fullE (dTms_two _ _) | exact VLe.fullE (dTms_three _ _ _) | exact VLe.fullE (dTys_one _) | exact VLe.fullE (dTys_two _ _) | exact VLe.fullE (dTys_three _ _ _)))) (hx.1) rfl rfl rfl rfl rfl ?_
              refine t_move rfl rfl rfl ?_
              refine t_move rfl rfl rfl ?_
              first | refine t_load ty30 rfl rfl rfl rfl rfl rfl ?_ | refine s_loadWc ty30 rfl rfl rfl rfl ?_ | refine t_loadN (us := [_, _]) ty30 rfl rfl rfl rfl rfl rfl ?_ | refine t_loadNc (us := [_, _]) ty30 rfl rfl rfl rfl rfl ?_
              refine t_move rfl rfl rfl ?_
              refine s_bin (r' := .int .i64 (dep - 1)) rfl rfl .sub (by rw [hwr]) rfl rfl ?_
              first | refine s_callSF rfl .rfl (hy.1) rfl rfl rfl rfl rfl ?_ | refine s_callSF rfl (by (repeat' (first | exact VLes.rfl | exact VLes.nil | exact VLe.rfl | refine VLes.cons ?_ ?_ | exact VLe.own | exact VLe.full | exact VLe.nils | refine VLe.agg ?_ | exact VLe.fullE (dTms_one _) | exact VLe.fullE (dTms_two _ _) | exact VLe.fullE (dTms_three _ _ _) | exact VLe.fullE (dTys_one _) | exact VLe.fullE (dTys_two _ _) | exact VLe.fullE (dTys_three _ _ _)))) (hy.1) rfl rfl rfl rfl rfl ?_
              first | refine t_buildSlice sli32 (Opds.ofL rfl) (.cons (.agg .rfl) (.cons (.agg .rfl) .nil)) (by intro x hx; simp only [List.mem_cons, List.not_mem_nil, or_false] at hx; rcases hx with rfl | rfl <;> rfl) rfl rfl rfl rfl ?_ | refine t_buildSlice sli32 (Opds.ofL rfl) (Elems.ofL rfl) (by intro x hx; simp only [List.mem_cons, List.not_mem_nil, or_false] at hx; rcases hx with rfl | rfl <;> rfl) rfl rfl rfl rfl ?_
              first | refine s_callF rfl .rfl (App_ev plusT [(mkTerm L n (dep - 1) g t (next L 5 a1).2).1, (mkTerm L n (dep - 1) g t (mkTerm L n (dep - 1) g t (next L 5 a1).2).2).1] (by simp only [bigTms, List.length_cons, List.length_nil]; omega)) rfl rfl ?_ | refine s_callF rfl (by (repeat' (first | exact VLes.rfl | exact VLes.nil | exact VLe.rfl | refine VLes.cons ?_ ?_ | exact VLe.own | exact VLe.full | exact VLe.nils | refine VLe.agg ?_ | exact VLe.fullE (dTms_one _) | exact VLe.fullE (dTms_two _ _) | exact VLe.fullE (dTms_three _ _ _) | exact VLe.fullE (dTys_one _) | exact VLe.fullE (dTys_two _ _) | exact VLe.fullE (dTys_three _ _ _)))) (App_ev plusT [(mkTerm L n (dep - 1) g t (next L 5 a1).2).1, (mkTerm L n (dep - 1) g t (mkTerm L n (dep - 1) g t (next L 5 a1).2).2).1] (by simp only [bigTms, List.length_cons, List.length_nil]; omega)) rfl rfl ?_
              first | refine s_storeW ty34 rfl rfl rfl rfl rfl rfl rfl ?_ | refine s_store (ws := [_, _, _, _, _]) ty34 rfl rfl rfl rfl rfl rfl rfl rfl ?_
              refine tr_nil ⟨by kernel_rfl, ?_⟩
              refine ac_ret ?_
              refine ⟨.inr rfl, _, ⟨_, _, _, _, _, rfl, rfl, rfl, .inl (retAgg ty34 rfl), rfl⟩, ?_, ?_⟩
              · (repeat' (first | exact VLe.rfl | exact VLes.rfl | exact VLes.nil | refine VLes.cons ?_ ?_ | refine VLe.agg ?_ | refine VLe.tup ?_ | exact VLe.own | exact VLe.full | exact VLe.nils | exact VLe.any | exact VLe.clo | exact VLe.fn | refine VLe.intE ?_ | refine VLe.boolE ?_ | refine VLe.sliceE ?_ | refine VLe.ownE ?_ | refine VLe.ownO ?_ | refine VLe.fullE ?_ | refine VLe.nilsE ?_))
              · (refine sigTo_at ?_; (repeat' (first | exact trivial | refine ⟨⟨_, rfl, ?_⟩, ?_⟩ | exact OLe.rfl | refine OLe.cells ?_ | exact VLe.rfl | exact VLes.rfl | exact VLes.nil | refine VLes.cons ?_ ?_ | exact VLe.any | exact VLe.own | exact VLe.full | exact VLe.clo | exact VLe.fn | refine VLe.intE ?_ | refine VLe.boolE ?_ | refine VLe.sliceE ?_ | refine VLe.ownE ?_ | refine VLe.fullE ?_ | refine VLe.nilsE ?_)))
            · refine ac_cond rfl (fun hb => by cases hb) (fun _ => ?_)
              refine ac_ts mixed ?_
              refine t_bin rfl rfl .eql rfl rfl ?_
              refine t_assign rfl rfl rfl ?_
              refine tr_nil ?_
              refine ac_bool (fun hb14 => ?_) (fun hb14 => ?_)
              · refine ac_cond rfl (fun _ => ?_) (fun hb => by cases hb)
                have hpl : subT.big ≤ 100 := by decide
                have hx := hcall g t (next L 5 a1).2 (by omega) ht hg (.inl hdp) hc5
                have hy := hcall g t (mkTerm L n (dep - 1) g t (next L 5 a1).2).2 (by omega) ht hg (.inl hdp) hx.2.2
                have hbx := hx.2.1
                have hby := hy.2.1
                have he : flatBody L (mkTerm L n (dep - 1)) (decide (dep > 0)) g t a1 = (appT subT [(mkTerm L n (dep - 1) g t (next L 5 a1).2).1, (mkTerm L n (dep - 1) g t (mkTerm L n (dep - 1) g t (next L 5 a1).2).2).1], (mkTerm L n (dep - 1) g t (mkTerm L n (dep - 1) g t (next L 5 a1).2).2).2) := by unfold flatBody; simp only [hb10, hb11, hb12, hb13, hb14, if_true, Bool.false_eq_true, if_false]
                rw [he]
                refine ac_ds mixed ?_
                first | refine s_callF rfl .rfl (Sub_ev) rfl rfl ?_ | refine s_callF rfl (by (repeat' (first | exact VLes.rfl | exact VLes.nil | exact VLe.rfl | refine VLes.cons ?_ ?_ | exact VLe.own | exact VLe.full | exact VLe.nils | refine VLe.agg ?_ | exact VLe.fullE (dTms_one _) | exact VLe.fullE (dTms_two _ _) | exact VLe.fullE (dTms_three _ _ _) | exact VLe.fullE (dTys_one _) | exact VLe.fullE (dTys_two _ _) | exact VLe.fullE (dTys_three _ _ _)))) (Sub_ev) rfl rfl ?_
                refine t_move rfl rfl rfl ?_
                refine t_move rfl rfl rfl ?_
                first | refine t_load ty30 rfl rfl rfl rfl rfl rfl ?_ | refine s_loadWc ty30 rfl rfl rfl rfl ?_ | refine t_loadN (us := [_, _]) ty30 rfl rfl rfl rfl rfl rfl ?_ | refine t_loadNc (us := [_, _]) ty30 rfl rfl rfl rfl rfl ?_
                refine t_move rfl rfl rfl ?_
                refine s_bin (r' := .int .i64 (dep - 1)) rfl rfl .sub (by rw [hwr]) rfl rfl ?_
                first | refine s_callSF rfl .rfl (hx.1) rfl rfl rfl rfl rfl ?_ | refine s_callSF rfl (by (repeat' (first | exact VLes.rfl | exact VLes.nil | exact VLe.rfl | refine VLes.cons ?_ ?_ | exact VLe.own | exact VLe.full | exact VLe.nils | refine VLe.agg ?_ | exact VLe.fullE (dTms_one _) | exact VLe.fullE (dTms_two _ _) | exact VLe.fullE (dTms_three _ _ _) | exact VLe.fullE (dTys_one _) | exact VLe.fullE (dTys_two _ _) | exact VLe.fullE (dTys_three _ _ _)))) (hx.1) rfl rfl rfl rfl rfl ?_
                refine t_move rfl rfl rfl ?_
                refine t_move rfl rfl rfl ?_
                first | refine t_load ty30 rfl rfl rfl rfl rfl rfl ?_ | refine s_loadWc ty30 rfl rfl rfl rfl ?_ | refine t_loadN (us := [_, _]) ty30 rfl rfl rfl rfl rfl rfl ?_ | refine t_loadNc (us := [_, _]) ty30 rfl rfl rfl rfl rfl ?_
                refine t_move rfl rfl rfl ?_
                refine s_bin (r' := .int .i64 (dep - 1)) rfl rfl .sub (by rw [hwr]) rfl rfl ?_
                first | refine s_callSF rfl .rfl (hy.1) rfl rfl rfl rfl rfl ?_ | refine s_callSF rfl (by (repeat' (first | exact VLes.rfl | exact VLes.nil | exact VLe.rfl | refine VLes.cons ?_ ?_ | exact VLe.own | exact VLe.full | exact VLe.nils | refine VLe.agg ?_ | exact VLe.fullE (dTms_one _) | exact VLe.fullE (dTms_two _ _) | exact VLe.fullE (dTms_three _ _ _) | exact VLe.fullE (dTys_one _) | exact VLe.fullE (dTys_two _ _) | exact VLe.fullE (dTys_three _ _ _)))) (hy.1) rfl rfl rfl rfl rfl ?_
                first | refine t_buildSlice sli32 (Opds.ofL rfl) (.cons (.agg .rfl) (.cons (.agg .rfl) .nil)) (by intro x hx; simp only [List.mem_cons, List.not_mem_nil, or_false] at hx; rcases hx with rfl | rfl <;> rfl) rfl rfl rfl rfl ?_ | refine t_buildSlice sli32 (Opds.ofL rfl) (Elems.ofL rfl) (by intro x hx; simp only [List.mem_cons, List.not_mem_nil, or_false] at hx; rcases hx with rfl | rfl <;> rfl) rfl rfl rfl rfl ?_
                first | refine s_callF rfl .rfl (App_ev subT [(mkTerm L n (dep - 1) g t (next L 5 a1).2).1, (mkTerm L n (dep - 1) g t (mkTerm L n (dep - 1) g t (next L 5 a1).2).2).1] (by simp only [bigTms, List.length_cons, List.length_nil]; omega)) rfl rfl ?_ | refine s_callF rfl (by (repeat' (first | exact VLes.rfl | exact VLes.nil | exact VLe.rfl | refine VLes.cons ?_ ?_ | exact VLe.own | exact VLe.full | exact VLe.nils | refine VLe.agg ?_ | exact VLe.fullE (dTms_one _) | exact VLe.fullE (dTms_two _ _) | exact VLe.fullE (dTms_three _ _ _) | exact VLe.fullE (dTys_one _) | exact VLe.fullE (dTys_two _ _) | exact VLe.fullE (dTys_three _ _ _)))) (App_ev subT [(mkTerm L n (dep - 1) g t (next L 5 a1).2).1, (mkTerm L n (dep - 1) g t (mkTerm L n (dep - 1) g t (next L 5 a1).2).2).1] (by simp only [bigTms, List.length_cons, List.length_nil]; omega)) rfl rfl ?_
                first | refine s_storeW ty34 rfl rfl rfl rfl rfl rfl rfl ?_ | refine s_store (ws := [_, _, _, _, _]) ty34 rfl rfl rfl rfl rfl rfl rfl rfl ?_
                refine tr_nil ⟨by kernel_rfl, ?_⟩
                refine ac_ret ?_
                refine ⟨.inr rfl, _, ⟨_, _, _, _, _, rfl, rfl, rfl, .inl (retAgg ty34 rfl), rfl⟩, ?_, ?_⟩
                · (repeat' (first | exact VLe.rfl | exact VLes.rfl | exact VLes.nil | refine VLes.cons ?_ ?_ | refine VLe.agg ?_ | refine VLe.tup ?_ | exact VLe.own | exact VLe.full | exact VLe.nils | exact VLe.any | exact VLe.clo | exact VLe.fn | refine VLe.intE ?_ | refine VLe.boolE ?_ | refine VLe.sliceE ?_ | refine VLe.ownE ?_ | refine VLe.ownO ?_ | refine VLe.fullE ?_ | refine VLe.nilsE ?_))
                · (refine sigTo_at ?_; (repeat' (first | exact trivial | refine ⟨⟨_, rfl, ?_⟩, ?_⟩ | exact OLe.rfl | refine OLe.cells ?_ | exact VLe.rfl | exact VLes.rfl | exact VLes.nil | refine VLes.cons ?_ ?_ | exact VLe.any | exact VLe.own | exact VLe.full | exact VLe.clo | exact VLe.fn | refine VLe.intE ?_ | refine VLe.boolE ?_ | refine VLe.sliceE ?_ | refine VLe.ownE ?_ | refine VLe.fullE ?_ | refine VLe.nilsE ?_)))
              · refine ac_cond rfl (fun hb => by cases hb) (fun _ => ?_)
                refine ac_skip ?_
                change AC _ _ _ _ _
                refine ac_ts mixed ?_
                have hzr := next_range L (next L 5 a1).2 (show (1 : Int) ≤ 3 by omega) (by omega)
                have hzn : (next L 3 (next L 5 a1).2).1 = ((next L 3 (next L 5 a1).2).1.toNat : Int) := by omega
                have he : flatBody L (mkTerm L n (dep - 1)) (decide (dep > 0)) g t a1 = (num (next L 3 (next L 5 a1).2).1.toNat, (next L 3 (next L 5 a1).2).2) := by unfold flatBody; simp only [hb10, hb11, hb12, hb13, hb14, if_true, Bool.false_eq_true, if_false]
                rw [he]
                refine t_move rfl rfl rfl ?_
                first | refine s_callSF rfl .rfl (Next_ev L hL 3 _ hc5) rfl rfl rfl rfl rfl ?_ | refine s_callSF rfl (by (repeat' (first | exact VLes.rfl | exact VLes.nil | exact VLe.rfl | refine VLes.cons ?_ ?_ | exact VLe.own | exact VLe.full | exact VLe.nils | refine VLe.agg ?_ | exact VLe.fullE (dTms_one _) | exact VLe.fullE (dTms_two _ _) | exact VLe.fullE (dTms_three _ _ _) | exact VLe.fullE (dTys_one _) | exact VLe.fullE (dTys_two _ _) | exact VLe.fullE (dTys_three _ _ _)))) (Next_ev L hL 3 _ hc5) rfl rfl rfl rfl rfl ?_
                rw [hzn]
                first | refine s_callF rfl .rfl (Num_ev _ (by omega)) rfl rfl ?_ | refine s_callF rfl (by (repeat' (first | exact VLes.rfl | exact VLes.nil | exact VLe.rfl | refine VLes.cons ?_ ?_ | exact VLe.own | exact VLe.full | exact VLe.nils | refine VLe.agg ?_ | exact VLe.fullE (dTms_one _) | exact VLe.fullE (dTms_two _ _) | exact VLe.fullE (dTms_three _ _ _) | exact VLe.fullE (dTys_one _) | exact VLe.fullE (dTys_two _ _) | exact VLe.fullE (dTys_three _ _ _)))) (Num_ev _ (by omega)) rfl rfl ?_
                first | refine s_storeW ty34 rfl rfl rfl rfl rfl rfl rfl ?_ | refine s_store (ws := [_, _, _, _, _]) ty34 rfl rfl rfl rfl rfl rfl rfl rfl ?_
                refine tr_nil ?_
                refine ac_ret ?_
                refine ⟨.inr rfl, _, ⟨_, _, _, _, _, rfl, rfl, rfl, .inl (retAgg ty34 rfl), rfl⟩, ?_, ?_⟩
                · (repeat' (first | exact VLe.rfl | exact VLes.rfl | exact VLes.nil | refine VLes.cons ?_ ?_ | refine VLe.agg ?_ | refine VLe.tup ?_ | exact VLe.own | exact VLe.full | exact VLe.nils | exact VLe.any | exact VLe.clo | exact VLe.fn | refine VLe.intE ?_ | refine VLe.boolE ?_ | refine VLe.sliceE ?_ | refine VLe.ownE ?_ | refine VLe.ownO ?_ | refine VLe.fullE ?_ | refine VLe.nilsE ?_))
                · (refine sigTo_at ?_; (repeat' (first | exact trivial | refine ⟨⟨_, rfl, ?_⟩, ?_⟩ | exact OLe.rfl | refine OLe.cells ?_ | exact VLe.rfl | exact VLes.rfl | exact VLes.nil | refine VLes.cons ?_ ?_ | exact VLe.any | exact VLe.own | exact VLe.full | exact VLe.clo | exact VLe.fn | refine VLe.intE ?_ | refine VLe.boolE ?_ | refine VLe.sliceE ?_ | refine VLe.ownE ?_ | refine VLe.fullE ?_ | refine VLe.nilsE ?_)))
        · refine ac_cond rfl (fun hb => by cases hb) (fun _ => ?_)
          refine ac_skip ?_
          change AC _ _ _ _ _
          refine ac_ts mixed ?_
          have hzr := next_range L a1 (show (1 : Int) ≤ 3 by omega) (by omega)
          have hzn : (next L 3 a1).1 = ((next L 3 a1).1.toNat : Int) := by omega
          have he : flatBody L (mkTerm L n (dep - 1)) (decide (dep > 0)) g t a1 = (num (next L 3 a1).1.toNat, (next L 3 a1).2) := by unfold flatBody; simp only [hb10, hb11, if_true, Bool.false_eq_true, if_false]
          rw [he]
          refine t_move rfl rfl rfl ?_
          first | refine s_callSF rfl .rfl (Next_ev L hL 3 _ haa) rfl rfl rfl rfl rfl ?_ | refine s_callSF rfl (by (repeat' (first | exact VLes.rfl | exact VLes.nil | exact VLe.rfl | refine VLes.cons ?_ ?_ | exact VLe.own | exact VLe.full | exact VLe.nils | refine VLe.agg ?_ | exact VLe.fullE (dTms_one _) | exact VLe.fullE (dTms_two _ _) | exact VLe.fullE (dTms_three _ _ _) | exact VLe.fullE (dTys_one _) | exact VLe.fullE (dTys_two _ _) | exact VLe.fullE (dTys_three _ _ _)))) (Next_ev L hL 3 _ haa) rfl rfl rfl rfl rfl ?_
          rw [hzn]
          first | refine s_callF rfl .rfl (Num_ev _ (by omega)) rfl rfl ?_ | refine s_callF rfl (by (repeat' (first | exact VLes.rfl | exact VLes.nil | exact VLe.rfl | refine VLes.cons ?_ ?_ | exact VLe.own | exact VLe.full | exact VLe.nils | refine VLe.agg ?_ | exact VLe.fullE (dTms_one _) | exact VLe.fullE (dTms_two _ _) | exact VLe.fullE (dTms_three _ _ _) | exact VLe.fullE (dTys_one _) | exact VLe.fullE (dTys_two _ _) | exact VLe.fullE (dTys_three _ _ _)))) (Num_ev _ (by omega)) rfl rfl ?_
          first | refine s_storeW ty34 rfl rfl rfl rfl rfl rfl rfl ?_ | refine s_store (ws := [_, _, _, _, _]) ty34 rfl rfl rfl rfl rfl rfl rfl rfl ?_
          refine tr_nil ?_
          refine ac_ret ?_
          refine ⟨.inr rfl, _, ⟨_, _, _, _, _, rfl, rfl, rfl, .inl (retAgg ty34 rfl), rfl⟩, ?_, ?_⟩
          · (repeat' (first | exact VLe.rfl | exact VLes.rfl | exact VLes.nil | refine VLes.cons ?_ ?_ | refine VLe.agg ?_ | refine VLe.tup ?_ | exact VLe.own | exact VLe.full | exact VLe.nils | exact VLe.any | exact VLe.clo | exact VLe.fn | refine VLe.intE ?_ | refine VLe.boolE ?_ | refine VLe.sliceE ?_ | refine VLe.ownE ?_ | refine VLe.ownO ?_ | refine VLe.fullE ?_ | refine VLe.nilsE ?_))
          · (refine sigTo_at ?_; (repeat' (first | exact trivial | refine ⟨⟨_, rfl, ?_⟩, ?_⟩ | exact OLe.rfl | refine OLe.cells ?_ | exact VLe.rfl | exact VLes.rfl | exact VLes.nil | refine VLes.cons ?_ ?_ | exact VLe.any | exact VLe.own | exact VLe.full | exact VLe.clo | exact VLe.fn | refine VLe.intE ?_ | refine VLe.boolE ?_ | refine VLe.sliceE ?_ | refine VLe.ownE ?_ | refine VLe.fullE ?_ | refine VLe.nilsE ?_)))
      · refine ac_cond rfl (fun hb => by cases hb) (fun _ => ?_)
        refine ac_ts mixed ?_
        refine t_bin rfl rfl .eql rfl rfl ?_
        refine t_assign rfl rfl rfl ?_
        refine tr_nil ?_
        refine ac_bool (fun hb15 => ?_) (fun hb15 => ?_)
        · refine ac_cond rfl (fun _ => ?_) (fun hb => by cases hb)
          refine ac_seq ?_
          refine ac_ts mixed ?_
          refine t_move rfl rfl rfl ?_
          refine t_bin rfl rfl .gtr rfl rfl ?_
          refine t_move rfl rfl rfl ?_
          refine tr_bool (fun h272 => ?_) (fun h272 => ?_)
          · have hdp : 0 < dep := by simpa using h272
            refine t_move rfl ⟨_, rfl, .inl ⟨_, rfl, rfl⟩⟩ rfl ?_
            first | refine s_callSF rfl .rfl (Next_ev L hL 2 _ haa) rfl rfl rfl ⟨_, rfl, .inl ⟨_, rfl, rfl⟩⟩ rfl ?_ | refine s_callSF rfl (by (repeat' (first | exact VLes.rfl | exact VLes.nil | exact VLe.rfl | refine VLes.cons ?_ ?_ | exact VLe.own | exact VLe.full | exact VLe.nils | refine VLe.agg ?_ | exact VLe.fullE (dTms_one _) | exact VLe.fullE (dTms_two _ _) | exact VLe.fullE (dTms_three _ _ _) | exact VLe.fullE (dTys_one _) | exact VLe.fullE (dTys_two _ _) | exact VLe.fullE (dTys_three _ _ _)))) (Next_ev L hL 2 _ haa) rfl rfl rfl ⟨_, rfl, .inl ⟨_, rfl, rfl⟩⟩ rfl ?_
            refine t_bin rfl rfl .eql ⟨_, rfl, .inl ⟨_, rfl, rfl⟩⟩ rfl ?_
            refine t_pick_t rfl rfl rfl rfl rfl ?_
            refine tr_nil ?_
            refine ac_bool (fun hb16 => ?_) (fun hb16 => ?_)
            · refine ac_cond rfl (fun _ => ?_) (fun hb => by cases hb)
              have hx := hcall g Typ.nat (next L 2 a1).2 (by omega) (by decide) hg (.inl hdp) hc2
              have hy := hcall g t (mkTerm L n (dep - 1) g Typ.nat (next L 2 a1).2).2 (by omega) ht hg (.inl hdp) hx.2.2
              have hbx := hx.2.1
              have hby := hy.2.1
              have he : flatBody L (mkTerm L n (dep - 1)) (decide (dep > 0)) g t a1 = (tm 8 [(mkTerm L n (dep - 1) g Typ.nat (next L 2 a1).2).1, (mkTerm L n (dep - 1) g t (mkTerm L n (dep - 1) g Typ.nat (next L 2 a1).2).2).1], (mkTerm L n (dep - 1) g t (mkTerm L n (dep - 1) g Typ.nat (next L 2 a1).2).2).2) := by unfold flatBody; simp only [hb10, hb15, h272, hb16, if_true, Bool.false_eq_true, if_false]
              rw [he]
              refine ac_ds mixed ?_
              refine t_move rfl rfl rfl ?_
              refine t_move rfl rfl rfl ?_
              first | refine s_callF rfl .rfl (r1_Nat_ev) rfl rfl ?_ | refine s_callF rfl (by (repeat' (first | exact VLes.rfl | exact VLes.nil | exact VLe.rfl | refine VLes.cons ?_ ?_ | exact VLe.own | exact VLe.full | exact VLe.nils | refine VLe.agg ?_ | exact VLe.fullE (dTms_one _) | exact VLe.fullE (dTms_two _ _) | exact VLe.fullE (dTms_three _ _ _) | exact VLe.fullE (dTys_one _) | exact VLe.fullE (dTys_two _ _) | exact VLe.fullE (dTys_three _ _ _)))) (r1_Nat_ev) rfl rfl ?_
              refine t_move rfl rfl rfl ?_
              refine s_bin (r' := .int .i64 (dep - 1)) rfl rfl .sub (by rw [hwr]) rfl rfl ?_
              first | refine s_callSF rfl .rfl (hx.1) rfl rfl rfl rfl rfl ?_ | refine s_callSF rfl (by (repeat' (first | exact VLes.rfl | exact VLes.nil | exact VLe.rfl | refine VLes.cons ?_ ?_ | exact VLe.own | exact VLe.full | exact VLe.nils | refine VLe.agg ?_ | exact VLe.fullE (dTms_one _) | exact VLe.fullE (dTms_two _ _) | exact VLe.fullE (dTms_three _ _ _) | exact VLe.fullE (dTys_one _) | exact VLe.fullE (dTys_two _ _) | exact VLe.fullE (dTys_three _ _ _)))) (hx.1) rfl rfl rfl rfl rfl ?_
              refine t_move rfl rfl rfl ?_
              refine t_move rfl rfl rfl ?_
              first | refine t_load ty30 rfl rfl rfl rfl rfl rfl ?_ | refine s_loadWc ty30 rfl rfl rfl rfl ?_ | refine t_loadN (us := [_, _]) ty30 rfl rfl rfl rfl rfl rfl ?_ | refine t_loadNc (us := [_, _]) ty30 rfl rfl rfl rfl rfl ?_
              refine t_move rfl rfl rfl ?_
              refine s_bin (r' := .int .i64 (dep - 1)) rfl rfl .sub (by rw [hwr]) rfl rfl ?_
              first | refine s_callSF rfl .rfl (hy.1) rfl rfl rfl rfl rfl ?_ | refine s_callSF rfl (by (repeat' (first | exact VLes.rfl | exact VLes.nil | exact VLe.rfl | refine VLes.cons ?_ ?_ | exact VLe.own | exact VLe.full | exact VLe.nils | refine VLe.agg ?_ | exact VLe.fullE (dTms_one _) | exact VLe.fullE (dTms_two _ _) | exact VLe.fullE (dTms_three _ _ _) | exact VLe.fullE (dTys_one _) | exact VLe.fullE (dTys_two _ _) | exact VLe.fullE (dTys_three _ _ _)))) (hy.1) rfl rfl rfl rfl rfl ?_
              first | refine t_buildSlice sli32 (Opds.ofL rfl) (.cons (.agg .rfl) (.cons (.agg .rfl) .nil)) (by intro x hx; simp only [List.mem_cons, List.not_mem_nil, or_false] at hx; rcases hx with rfl | rfl <;> rfl) rfl rfl rfl rfl ?_ | refine t_buildSlice sli32 (Opds.ofL rfl) (Elems.ofL rfl) (by intro x hx; simp only [List.mem_cons, List.not_mem_nil, or_false] at hx; rcases hx with rfl | rfl <;> rfl) rfl rfl rfl rfl ?_
              first | refine s_callF rfl .rfl (N_ev 8 [(mkTerm L n (dep - 1) g Typ.nat (next L 2 a1).2).1, (mkTerm L n (dep - 1) g t (mkTerm L n (dep - 1) g Typ.nat (next L 2 a1).2).2).1] (by simp only [bigTms]; omega)) rfl rfl ?_ | refine s_callF rfl (by (repeat' (first | exact VLes.rfl | exact VLes.nil | exact VLe.rfl | refine VLes.cons ?_ ?_ | exact VLe.own | exact VLe.full | exact VLe.nils | refine VLe.agg ?_ | exact VLe.fullE (dTms_one _) | exact VLe.fullE (dTms_two _ _) | exact VLe.fullE (dTms_three _ _ _) | exact VLe.fullE (dTys_one _) | exact VLe.fullE (dTys_two _ _) | exact VLe.fullE (dTys_three _ _ _)))) (N_ev 8 [(mkTerm L n (dep - 1) g Typ.nat (next L 2 a1).2).1, (mkTerm L n (dep - 1) g t (mkTerm L n (dep - 1) g Typ.nat (next L 2 a1).2).2).1] (by simp only [bigTms]; omega)) rfl rfl ?_
              first | refine s_storeW ty34 rfl rfl rfl rfl rfl rfl rfl ?_ | refine s_store (ws := [_, _, _, _, _]) ty34 rfl rfl rfl rfl rfl rfl rfl rfl ?_
              refine tr_nil ⟨by kernel_rfl, ?_⟩
              refine ac_ret ?_
              refine ⟨.inr rfl, _, ⟨_, _, _, _, _, rfl, rfl, rfl, .inl (retAgg ty34 rfl), rfl⟩, ?_, ?_⟩
              · (repeat' (first | exact VLe.rfl | exact VLes.rfl | exact VLes.nil | refine VLes.cons ?_ ?_ | refine VLe.agg ?_ | refine VLe.tup ?_ | exact VLe.own | exact VLe.full | exact VLe.nils | exact VLe.any | exact VLe.clo | exact VLe.fn | refine VLe.intE ?_ | refine VLe.boolE ?_ | refine VLe.sliceE ?_ | refine VLe.ownE ?_ | refine VLe.ownO ?_ | refine VLe.fullE ?_ | refine VLe.nilsE ?_))
              · (refine sigTo_at ?_; (repeat' (first | exact trivial | refine ⟨⟨_, rfl, ?_⟩, ?_⟩ | exact OLe.rfl | refine OLe.cells ?_ | exact VLe.rfl | exact VLes.rfl | exact VLes.nil | refine VLes.cons ?_ ?_ | exact VLe.any | exact VLe.own | exact VLe.full | exact VLe.clo | exact VLe.fn | refine VLe.intE ?_ | refine VLe.boolE ?_ | refine VLe.sliceE ?_ | refine VLe.ownE ?_ | refine VLe.fullE ?_ | refine VLe.nilsE ?_)))
            · refine ac_cond rfl (fun hb => by cases hb) (fun _ => ?_)
              refine ac_skip ?_
              change AC _ _ _ _ _
              refine ac_ts mixed ?_
              have he : flatBody L (mkTerm L n (dep - 1)) (decide (dep > 0)) g t a1 = (tm 7 [], (next L 2 a1).2) := by unfold flatBody; simp only [hb10, hb15, h272, hb16, if_true, Bool.false_eq_true, if_false]
              rw [he]
              first | refine s_callF rfl .rfl (N_ev 7 [] (by decide)) rfl rfl ?_ | refine s_callF rfl (by (repeat' (first | exact VLes.rfl | exact VLes.nil | exact VLe.rfl | refine VLes.cons ?_ ?_ | exact VLe.own | exact VLe.full | exact VLe.nils | refine VLe.agg ?_ | exact VLe.fullE (dTms_one _) | exact VLe.fullE (dTms_two _ _) | exact VLe.fullE (dTms_three _ _ _) | exact VLe.fullE (dTys_one _) | exact VLe.fullE (dTys_two _ _) | exact VLe.fullE (dTys_three _ _ _)))) (N_ev 7 [] (by decide)) rfl rfl ?_
              first | refine s_storeW ty34 rfl rfl rfl rfl rfl rfl rfl ?_ | refine s_store (ws := [_, _, _, _, _]) ty34 rfl rfl rfl rfl rfl rfl rfl rfl ?_
              refine tr_nil ?_
              refine ac_ret ?_
              refine ⟨.inr rfl, _, ⟨_, _, _, _, _, rfl, rfl, rfl, .inl (retAgg ty34 rfl), rfl⟩, ?_, ?_⟩
              · (repeat' (first | exact VLe.rfl | exact VLes.rfl | exact VLes.nil | refine VLes.cons ?_ ?_ | refine VLe.agg ?_ | refine VLe.tup ?_ | exact VLe.own | exact VLe.full | exact VLe.nils | exact VLe.any | exact VLe.clo | exact VLe.fn | refine VLe.intE ?_ | refine VLe.boolE ?_ | refine VLe.sliceE ?_ | refine VLe.ownE ?_ | refine VLe.ownO ?_ | refine VLe.fullE ?_ | refine VLe.nilsE ?_))
              · (refine sigTo_at ?_; (repeat' (first | exact trivial | refine ⟨⟨_, rfl, ?_⟩, ?_⟩ | exact OLe.rfl | refine OLe.cells ?_ | exact VLe.rfl | exact VLes.rfl | exact VLes.nil | refine VLes.cons ?_ ?_ | exact VLe.any | exact VLe.own | exact VLe.full | exact VLe.clo | exact VLe.fn | refine VLe.intE ?_ | refine VLe.boolE ?_ | refine VLe.sliceE ?_ | refine VLe.ownE ?_ | refine VLe.fullE ?_ | refine VLe.nilsE ?_)))
          · refine t_skip ⟨_, rfl, .inl ⟨_, rfl, rfl⟩⟩ rfl ?_
            refine t_skip ⟨_, rfl, .inl ⟨_, rfl, rfl⟩⟩ rfl ?_
            refine t_skip ⟨_, rfl, .inl ⟨_, rfl, rfl⟩⟩ rfl ?_
            refine t_pick_f rfl rfl rfl rfl rfl ?_
            refine tr_nil ?_
            refine ac_cond rfl (fun hb => by cases hb) (fun hb => ?_)
            refine ac_skip ?_
            change AC _ _ _ _ _
            refine ac_ts mixed ?_
            have he : flatBody L (mkTerm L n (dep - 1)) (decide (dep > 0)) g t a1 = (tm 7 [], a1) := by unfold flatBody; simp only [hb10, hb15, h272, if_true, Bool.false_eq_true, if_false]
            rw [he]
            first | refine s_callF rfl .rfl (N_ev 7 [] (by decide)) rfl rfl ?_ | refine s_callF rfl (by (repeat' (first | exact VLes.rfl | exact VLes.nil | exact VLe.rfl | refine VLes.cons ?_ ?_ | exact VLe.own | exact VLe.full | exact VLe.nils | refine VLe.agg ?_ | exact VLe.fullE (dTms_one _) | exact VLe.fullE (dTms_two _ _) | exact VLe.fullE (dTms_three _ _ _) | exact VLe.fullE (dTys_one _) | exact VLe.fullE (dTys_two _ _) | exact VLe.fullE (dTys_three _ _ _)))) (N_ev 7 [] (by decide)) rfl rfl ?_
            first | refine s_storeW ty34 rfl rfl rfl rfl rfl rfl rfl ?_ | refine s_store (ws := [_, _, _, _, _]) ty34 rfl rfl rfl rfl rfl rfl rfl rfl ?_
            refine tr_nil ?_
            refine ac_ret ?_
            refine ⟨.inr rfl, _, ⟨_, _, _, _, _, rfl, rfl, rfl, .inl (retAgg ty34 rfl), rfl⟩, ?_, ?_⟩
            · (repeat' (first | exact VLe.rfl | exact VLes.rfl | exact VLes.nil | refine VLes.cons ?_ ?_ | refine VLe.agg ?_ | refine VLe.tup ?_ | exact VLe.own | exact VLe.full | exact VLe.nils | exact VLe.any | exact VLe.clo | exact VLe.fn | refine VLe.intE ?_ | refine VLe.boolE ?_ | refine VLe.sliceE ?_ | refine VLe.ownE ?_ | refine VLe.ownO ?_ | refine VLe.fullE ?_ | refine VLe.nilsE ?_))
            · (refine sigTo_at ?_; (repeat' (first | exact trivial | refine ⟨⟨_, rfl, ?_⟩, ?_⟩ | exact OLe.rfl | refine OLe.cells ?_ | exact VLe.rfl | exact VLes.rfl | exact VLes.nil | refine VLes.cons ?_ ?_ | exact VLe.any | exact VLe.own | exact VLe.full | exact VLe.clo | exact VLe.fn | refine VLe.intE ?_ | refine VLe.boolE ?_ | refine VLe.sliceE ?_ | refine VLe.ownE ?_ | refine VLe.fullE ?_ | refine VLe.nilsE ?_)))
        · refine ac_cond rfl (fun hb => by cases hb) (fun _ => ?_)
          refine ac_ts mixed ?_
          refine t_bin rfl rfl .eql rfl rfl ?_
          refine t_assign rfl rfl rfl ?_
          refine tr_nil ?_
          refine ac_bool (fun hb17 => ?_) (fun hb17 => ?_)
          · refine ac_cond rfl (fun _ => ?_) (fun hb => by cases hb)
            have hk3 : t.kind = 3 := by simpa using hb17
            obtain ⟨x, y, hxy, ox, oy, osz, e0, e1⟩ := two_args ht (.inl hk3)
            have hga : ∀ {m : Nat}, m < 2 → (dTys t.args)[m]? = some (dTy (t.args.getD m .zero)) := fun hm => dTys_getD (by rw [shape_args (okB_iff.1 ht).1 (.inl hk3)]; exact hm)
            have hx := hcall g (t.args.getD 0 .zero) a1 (by omega) (by rw [e0]; exact ox) hg (.inr (by rw [e0]; omega)) haa
            have hy := hcall g (t.args.getD 1 .zero) (mkTerm L n (dep - 1) g (t.args.getD 0 Typ.zero) a1).2 (by omega) (by rw [e1]; exact oy) hg (.inr (by rw [e1]; have := x.sz_pos; omega)) hx.2.2
            have hbx := hx.2.1
            have hby := hy.2.1
            have he : flatBody L (mkTerm L n (dep - 1)) (decide (dep > 0)) g t a1 = (tm 10 [(mkTerm L n (dep - 1) g (t.args.getD 0 Typ.zero) a1).1, (mkTerm L n (dep - 1) g (t.args.getD 1 Typ.zero) (mkTerm L n (dep - 1) g (t.args.getD 0 Typ.zero) a1).2).1], (mkTerm L n (dep - 1) g (t.args.getD 1 Typ.zero) (mkTerm L n (dep - 1) g (t.args.getD 0 Typ.zero) a1).2).2) := by unfold flatBody; simp only [hb10, hb15, hb17, if_true, Bool.false_eq_true, if_false]
            rw [he]
            refine ac_ds mixed ?_
            refine t_move rfl rfl rfl ?_
            refine t_move rfl rfl rfl ?_
            first | refine t_fieldAddr fld30_1 rfl rfl rfl ?_ | refine t_fieldAddr_c fld30_1 rfl rfl rfl rfl rfl ?_
            first | refine t_load1 ty27 rfl rfl rfl rfl rfl ?_ | refine t_load1c ty27 rfl rfl rfl rfl ?_
            refine t_indexAddr sli27 rfl (by constructor) rfl (by decide) (hga (by decide)) rfl rfl rfl ?_
            first | refine t_load ty30 rfl rfl rfl rfl rfl rfl ?_ | refine s_loadWc ty30 rfl rfl rfl rfl ?_ | refine t_loadN (us := [_, _]) ty30 rfl rfl rfl rfl rfl rfl ?_ | refine t_loadNc (us := [_, _]) ty30 rfl rfl rfl rfl rfl ?_
            refine t_move rfl rfl rfl ?_
            refine s_bin (r' := .int .i64 (dep - 1)) rfl rfl .sub (by rw [hwr]) rfl rfl ?_
            first | refine s_callSF rfl .rfl (hx.1) rfl rfl rfl rfl rfl ?_ | refine s_callSF rfl (by (repeat' (first | exact VLes.rfl | exact VLes.nil | exact VLe.rfl | refine VLes.cons ?_ ?_ | exact VLe.own | exact VLe.full | exact VLe.nils | refine VLe.agg ?_ | exact VLe.fullE (dTms_one _) | exact VLe.fullE (dTms_two _ _) | exact VLe.fullE (dTms_three _ _ _) | exact VLe.fullE (dTys_one _) | exact VLe.fullE (dTys_two _ _) | exact VLe.fullE (dTys_three _ _ _)))) (hx.1) rfl rfl rfl rfl rfl ?_
            refine t_move rfl rfl rfl ?_
            refine t_move rfl rfl rfl ?_
            first | refine t_fieldAddr fld30_1 rfl rfl rfl ?_ | refine t_fieldAddr_c fld30_1 rfl rfl rfl rfl rfl ?_
            first | refine t_load1 ty27 rfl rfl rfl rfl rfl ?_ | refine t_load1c ty27 rfl rfl rfl rfl ?_
            refine t_indexAddr sli27 rfl (by constructor) rfl (by decide) (hga (by decide)) rfl rfl rfl ?_
            first | refine t_load ty30 rfl rfl rfl rfl rfl rfl ?_ | refine s_loadWc ty30 rfl rfl rfl rfl ?_ | refine t_loadN (us := [_, _]) ty30 rfl rfl rfl rfl rfl rfl ?_ | refine t_loadNc (us := [_, _]) ty30 rfl rfl rfl rfl rfl ?_
            refine t_move rfl rfl rfl ?_
            refine s_bin (r' := .int .i64 (dep - 1)) rfl rfl .sub (by rw [hwr]) rfl rfl ?_
            first | refine s_callSF rfl .rfl (hy.1) rfl rfl rfl rfl rfl ?_ | refine s_callSF rfl (by (repeat' (first | exact VLes.rfl | exact VLes.nil | exact VLe.rfl | refine VLes.cons ?_ ?_ | exact VLe.own | exact VLe.full | exact VLe.nils | refine VLe.agg ?_ | exact VLe.fullE (dTms_one _) | exact VLe.fullE (dTms_two _ _) | exact VLe.fullE (dTms_three _ _ _) | exact VLe.fullE (dTys_one _) | exact VLe.fullE (dTys_two _ _) | exact VLe.fullE (dTys_three _ _ _)))) (hy.1) rfl rfl rfl rfl rfl ?_
            first | refine t_buildSlice sli32 (Opds.ofL rfl) (.cons (.agg .rfl) (.cons (.agg .rfl) .nil)) (by intro x hx; simp only [List.mem_cons, List.not_mem_nil, or_false] at hx; rcases hx with rfl | rfl <;> rfl) rfl rfl rfl rfl ?_ | refine t_buildSlice sli32 (Opds.ofL rfl) (Elems.ofL rfl) (by intro x hx; simp only [List.mem_cons, List.not_mem_nil, or_false] at hx; rcases hx with rfl | rfl <;> rfl) rfl rfl rfl rfl ?_
            first | refine s_callF rfl .rfl (N_ev 10 [(mkTerm L n (dep - 1) g (t.args.getD 0 Typ.zero) a1).1, (mkTerm L n (dep - 1) g (t.args.getD 1 Typ.zero) (mkTerm L n (dep - 1) g (t.args.getD 0 Typ.zero) a1).2).1] (by simp only [bigTms]; omega)) rfl rfl ?_ | refine s_callF rfl (by (repeat' (first | exact VLes.rfl | exact VLes.nil | exact VLe.rfl | refine VLes.cons ?_ ?_ | exact VLe.own | exact VLe.full | exact VLe.nils | refine VLe.agg ?_ | exact VLe.fullE (dTms_one _) | exact VLe.fullE (dTms_two _ _) | exact VLe.fullE (dTms_three _ _ _) | exact VLe.fullE (dTys_one _) | exact VLe.fullE (dTys_two _ _) | exact VLe.fullE (dTys_three _ _ _)))) (N_ev 10 [(mkTerm L n (dep - 1) g (t.args.getD 0 Typ.zero) a1).1, (mkTerm L n (dep - 1) g (t.args.getD 1 Typ.zero) (mkTerm L n (dep - 1) g (t.args.getD 0 Typ.zero) a1).2).1] (by simp only [bigTms]; omega)) rfl rfl ?_
            first | refine s_storeW ty34 rfl rfl rfl rfl rfl rfl rfl ?_ | refine s_store (ws := [_, _, _, _, _]) ty34 rfl rfl rfl rfl rfl rfl rfl rfl ?_
            refine tr_nil ⟨by kernel_rfl, ?_⟩
            refine ac_ret ?_
            refine ⟨.inr rfl, _, ⟨_, _, _, _, _, rfl, rfl, rfl, .inl (retAgg ty34 rfl), rfl⟩, ?_, ?_⟩
            · (repeat' (first | exact VLe.rfl | exact VLes.rfl | exact VLes.nil | refine VLes.cons ?_ ?_ | refine VLe.agg ?_ | refine VLe.tup ?_ | exact VLe.own | exact VLe.full | exact VLe.nils | exact VLe.any | exact VLe.clo | exact VLe.fn | refine VLe.intE ?_ | refine VLe.boolE ?_ | refine VLe.sliceE ?_ | refine VLe.ownE ?_ | refine VLe.ownO ?_ | refine VLe.fullE ?_ | refine VLe.nilsE ?_))
            · (refine sigTo_at ?_; (repeat' (first | exact trivial | refine ⟨⟨_, rfl, ?_⟩, ?_⟩ | exact OLe.rfl | refine OLe.cells ?_ | exact VLe.rfl | exact VLes.rfl | exact VLes.nil | refine VLes.cons ?_ ?_ | exact VLe.any | exact VLe.own | exact VLe.full | exact VLe.clo | exact VLe.fn | refine VLe.intE ?_ | refine VLe.boolE ?_ | refine VLe.sliceE ?_ | refine VLe.ownE ?_ | refine VLe.fullE ?_ | refine VLe.nilsE ?_)))
          · refine ac_cond rfl (fun hb => by cases hb) (fun _ => ?_)
            refine ac_ts mixed ?_
            refine t_bin rfl rfl .eql rfl rfl ?_
            refine t_assign rfl rfl rfl ?_
            refine tr_nil ?_
            refine ac_bool (fun hb18 => ?_) (fun hb18 => ?_)
            · refine ac_cond rfl (fun _ => ?_) (fun hb => by cases hb)
              have hk4 : t.kind = 4 := by simpa using hb18
              obtain ⟨x, y, hxy, ox, oy, osz, e0, e1⟩ := two_args ht (.inr hk4)
              have hx64 := (okB_iff.1 ox).2
              have hga : ∀ {m : Nat}, m < 2 → (dTys t.args)[m]? = some (dTy (t.args.getD m .zero)) := fun hm => dTys_getD (by rw [shape_args (okB_iff.1 ht).1 (.inr hk4)]; exact hm)
              have hx := hcall (g ++ [t.args.getD 0 .zero]) (t.args.getD 1 .zero) a1 (by simp) (by rw [e1]; exact oy) (ext hg (by rw [e0]; exact ox)) (.inr (by rw [e1]; have := x.sz_pos; omega)) haa
              have hbx := hx.2.1
              have he : flatBody L (mkTerm L n (dep - 1)) (decide (dep > 0)) g t a1 = (.mk 2 0 (t.args.getD 0 .zero) [(mkTerm L n (dep - 1) (g ++ [t.args.getD 0 Typ.zero]) (t.args.getD 1 Typ.zero) a1).1], (mkTerm L n (dep - 1) (g ++ [t.args.getD 0 Typ.zero]) (t.args.getD 1 Typ.zero) a1).2) := by unfold flatBody; simp only [hb10, hb15, hb17, hb18, if_true, Bool.false_eq_true, if_false]
              rw [he]
              refine ac_ds mixed ?_
              first | refine t_fieldAddr fld30_1 rfl rfl rfl ?_ | refine t_fieldAddr_c fld30_1 rfl rfl rfl rfl rfl ?_
              first | refine t_load1 ty27 rfl rfl rfl rfl rfl ?_ | refine t_load1c ty27 rfl rfl rfl rfl ?_
              refine t_indexAddr sli27 rfl (by constructor) rfl (by decide) (hga (by decide)) rfl rfl rfl ?_
              first | refine t_load ty30 rfl rfl rfl rfl rfl rfl ?_ | refine s_loadWc ty30 rfl rfl rfl rfl ?_ | refine t_loadN (us := [_, _]) ty30 rfl rfl rfl rfl rfl rfl ?_ | refine t_loadNc (us := [_, _]) ty30 rfl rfl rfl rfl rfl ?_
              refine t_move rfl rfl rfl ?_
              refine t_move rfl rfl rfl ?_
              first | refine t_fieldAddr fld30_1 rfl rfl rfl ?_ | refine t_fieldAddr_c fld30_1 rfl rfl rfl rfl rfl ?_
              first | refine t_load1 ty27 rfl rfl rfl rfl rfl ?_ | refine t_load1c ty27 rfl rfl rfl rfl ?_
              refine t_indexAddr sli27 rfl (by constructor) rfl (by decide) (hga (by decide)) rfl rfl rfl ?_
              first | refine t_load ty30 rfl rfl rfl rfl rfl rfl ?_ | refine s_loadWc ty30 rfl rfl rfl rfl ?_ | refine t_loadN (us := [_, _]) ty30 rfl rfl rfl rfl rfl rfl ?_ | refine t_loadNc (us := [_, _]) ty30 rfl rfl rfl rfl rfl ?_
              first | refine t_buildSlice sli27 (Opds.ofL rfl) (.cons (.agg .rfl) .nil) (by intro x hx; simp only [List.mem_cons, List.not_mem_nil, or_false] at hx; rcases hx with rfl <;> rfl) rfl rfl rfl rfl ?_ | refine t_buildSlice sli27 (Opds.ofL rfl) (Elems.ofL rfl) (by intro x hx; simp only [List.mem_cons, List.not_mem_nil, or_false] at hx; rcases hx with rfl <;> rfl) rfl rfl rfl rfl ?_
              first | refine s_callF rfl .rfl (longer_ev g [t.args.getD 0 .zero] (by simp; omega)) rfl rfl ?_ | refine s_callF rfl (by (repeat' (first | exact VLes.rfl | exact VLes.nil | exact VLe.rfl | refine VLes.cons ?_ ?_ | exact VLe.own | exact VLe.full | exact VLe.nils | refine VLe.agg ?_ | exact VLe.fullE (dTms_one _) | exact VLe.fullE (dTms_two _ _) | exact VLe.fullE (dTms_three _ _ _) | exact VLe.fullE (dTys_one _) | exact VLe.fullE (dTys_two _ _) | exact VLe.fullE (dTys_three _ _ _)))) (longer_ev g [t.args.getD 0 .zero] (by simp; omega)) rfl rfl ?_
              first | refine t_fieldAddr fld30_1 rfl rfl rfl ?_ | refine t_fieldAddr_c fld30_1 rfl rfl rfl rfl rfl ?_
              first | refine t_load1 ty27 rfl rfl rfl rfl rfl ?_ | refine t_load1c ty27 rfl rfl rfl rfl ?_
              refine t_indexAddr sli27 rfl (by constructor) rfl (by decide) (hga (by decide)) rfl rfl rfl ?_
              first | refine t_load ty30 rfl rfl rfl rfl rfl rfl ?_ | refine s_loadWc ty30 rfl rfl rfl rfl ?_ | refine t_loadN (us := [_, _]) ty30 rfl rfl rfl rfl rfl rfl ?_ | refine t_loadNc (us := [_, _]) ty30 rfl rfl rfl rfl rfl ?_
              refine t_move rfl rfl rfl ?_
              refine s_bin (r' := .int .i64 (dep - 1)) rfl rfl .sub (by rw [hwr]) rfl rfl ?_
              first | refine s_callSF rfl .rfl (hx.1) rfl rfl rfl rfl rfl ?_ | refine s_callSF rfl (by (repeat' (first | exact VLes.rfl | exact VLes.nil | exact VLe.rfl | refine VLes.cons ?_ ?_ | exact VLe.own | exact VLe.full | exact VLe.nils | refine VLe.agg ?_ | exact VLe.fullE (dTms_one _) | exact VLe.fullE (dTms_two _ _) | exact VLe.fullE (dTms_three _ _ _) | exact VLe.fullE (dTys_one _) | exact VLe.fullE (dTys_two _ _) | exact VLe.fullE (dTys_three _ _ _)))) (hx.1) rfl rfl rfl rfl rfl ?_
              first | refine t_buildSlice sli32 (Opds.ofL rfl) (.cons (.agg .rfl) .nil) (by intro x hx; simp only [List.mem_cons, List.not_mem_nil, or_false] at hx; rcases hx with rfl <;> rfl) rfl rfl rfl rfl ?_ | refine t_buildSlice sli32 (Opds.ofL rfl) (Elems.ofL rfl) (by intro x hx; simp only [List.mem_cons, List.not_mem_nil, or_false] at hx; rcases hx with rfl <;> rfl) rfl rfl rfl rfl ?_
              first | refine s_callF rfl .rfl (T_ev 2 (t.args.getD 0 .zero) (by rw [e0]; omega) [(mkTerm L n (dep - 1) (g ++ [t.args.getD 0 Typ.zero]) (t.args.getD 1 Typ.zero) a1).1] (by simp only [bigTms]; omega)) rfl rfl ?_ | refine s_callF rfl (by (repeat' (first | exact VLes.rfl | exact VLes.nil | exact VLe.rfl | refine VLes.cons ?_ ?_ | exact VLe.own | exact VLe.full | exact VLe.nils | refine VLe.agg ?_ | exact VLe.fullE (dTms_one _) | exact VLe.fullE (dTms_two _ _) | exact VLe.fullE (dTms_three _ _ _) | exact VLe.fullE (dTys_one _) | exact VLe.fullE (dTys_two _ _) | exact VLe.fullE (dTys_three _ _ _)))) (T_ev 2 (t.args.getD 0 .zero) (by rw [e0]; omega) [(mkTerm L n (dep - 1) (g ++ [t.args.getD 0 Typ.zero]) (t.args.getD 1 Typ.zero) a1).1] (by simp only [bigTms]; omega)) rfl rfl ?_
              first | refine s_storeW ty34 rfl rfl rfl rfl rfl rfl rfl ?_ | refine s_store (ws := [_, _, _, _, _]) ty34 rfl rfl rfl rfl rfl rfl rfl rfl ?_
              refine tr_nil ⟨by kernel_rfl, ?_⟩
              refine ac_ret ?_
              refine ⟨.inr rfl, _, ⟨_, _, _, _, _, rfl, rfl, rfl, .inl (retAgg ty34 rfl), rfl⟩, ?_, ?_⟩
              · (repeat' (first | exact VLe.rfl | exact VLes.rfl | exact VLes.nil | refine VLes.cons ?_ ?_ | refine VLe.agg ?_ | refine VLe.tup ?_ | exact VLe.own | exact VLe.full | exact VLe.nils | exact VLe.any | exact VLe.clo | exact VLe.fn | refine VLe.intE ?_ | refine VLe.boolE ?_ | refine VLe.sliceE ?_ | refine VLe.ownE ?_ | refine VLe.ownO ?_ | refine VLe.fullE ?_ | refine VLe.nilsE ?_))
              · (refine sigTo_at ?_; (repeat' (first | exact trivial | refine ⟨⟨_, rfl, ?_⟩, ?_⟩ | exact OLe.rfl | refine OLe.cells ?_ | exact VLe.rfl | exact VLes.rfl | exact VLes.nil | refine VLes.cons ?_ ?_ | exact VLe.any | exact VLe.own | exact VLe.full | exact VLe.clo | exact VLe.fn | refine VLe.intE ?_ | refine VLe.boolE ?_ | refine VLe.sliceE ?_ | refine VLe.ownE ?_ | refine VLe.fullE ?_ | refine VLe.nilsE ?_)))
            · refine ac_cond rfl (fun hb => by cases hb) (fun _ => ?_)
              refine ac_skip ?_
              change AC _ _ _ _ _
              refine ac_ts mixed ?_
              have he : flatBody L (mkTerm L n (dep - 1)) (decide (dep > 0)) g t a1 = (tm 13 [], a1) := by unfold flatBody; simp only [hb10, hb15, hb17, hb18, Bool.false_eq_true, if_false]
              rw [he]
              first | refine s_callF rfl .rfl (N_ev 13 [] (by decide)) rfl rfl ?_ | refine s_callF rfl (by (repeat' (first | exact VLes.rfl | exact VLes.nil | exact VLe.rfl | refine VLes.cons ?_ ?_ | exact VLe.own | exact VLe.full | exact VLe.nils | refine VLe.agg ?_ | exact VLe.fullE (dTms_one _) | exact VLe.fullE (dTms_two _ _) | exact VLe.fullE (dTms_three _ _ _) | exact VLe.fullE (dTys_one _) | exact VLe.fullE (dTys_two _ _) | exact VLe.fullE (dTys_three _ _ _)))) (N_ev 13 [] (by decide)) rfl rfl ?_
              first | refine s_storeW ty34 rfl rfl rfl rfl rfl rfl rfl ?_ | refine s_store (ws := [_, _, _, _, _]) ty34 rfl rfl rfl rfl rfl rfl rfl rfl ?_
              refine tr_nil ?_
              refine ac_ret ?_
              refine ⟨.inr rfl, _, ⟨_, _, _, _, _, rfl, rfl, rfl, .inl (retAgg ty34 rfl), rfl⟩, ?_, ?_⟩
              · (repeat' (first | exact VLe.rfl | exact VLes.rfl | exact VLes.nil | refine VLes.cons ?_ ?_ | refine VLe.agg ?_ | refine VLe.tup ?_ | exact VLe.own | exact VLe.full | exact VLe.nils | exact VLe.any | exact VLe.clo | exact VLe.fn | refine VLe.intE ?_ | refine VLe.boolE ?_ | refine VLe.sliceE ?_ | refine VLe.ownE ?_ | refine VLe.ownO ?_ | refine VLe.fullE ?_ | refine VLe.nilsE ?_))
              · (refine sigTo_at ?_; (repeat' (first | exact trivial | refine ⟨⟨_, rfl, ?_⟩, ?_⟩ | exact OLe.rfl | refine OLe.cells ?_ | exact VLe.rfl | exact VLes.rfl | exact VLes.nil | refine VLes.cons ?_ ?_ | exact VLe.any | exact VLe.own | exact VLe.full | exact VLe.clo | exact VLe.fn | refine VLe.intE ?_ | refine VLe.boolE ?_ | refine VLe.sliceE ?_ | refine VLe.ownE ?_ | refine VLe.fullE ?_ | refine VLe.nilsE ?_)))
end Go.AM

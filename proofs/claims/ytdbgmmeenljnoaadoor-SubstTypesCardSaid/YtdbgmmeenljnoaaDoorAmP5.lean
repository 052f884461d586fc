/-
  Contracts: the types of terms.
-/
import Derived.Test.YtdbgmmeenljnoaaDoorAmP4
set_option linter.unusedVariables false
set_option linter.unusedSimpArgs false
set_option maxRecDepth 20000
namespace Go.AM
open Go Go.RowKit Go.Proofs

theorem infer_ev (t : Trm) (ht : t.big ≤ 1000000) (hsh : t.shape = true) : ∀ g : List Typ, (∀ a ∈ g, a.okB = true) → g.length + t.big ≤ 2000000 → Ev Tryd.prog GL 63 [.d (.slice (dTys g)), vTm t] [] (.tup [vTy (t.infer g).2, .d (.int .i64 (t.infer g).1)]) [] := by
  induction t using Trm.ind with
  | _ k ix ty l ih =>
  intro g hgo hgl
  have hl := bigTms_len l
  have hs : bigTms l < 1000000 := by simp [Trm.big] at ht; omega
  have hgb : g.length + 1 + bigTms l ≤ 2000000 := by simp [Trm.big] at hgl; omega
  have hty : ty.sz ≤ 1000000 := by simp [Trm.big] at ht; omega
  have hty2 : 1 + ty.sz ≤ 1000000 := by simp [Trm.big] at ht; omega
  have hlen : l.length ≤ 1000000 := by omega
  rw [Trm.shape_iff] at hsh
  obtain ⟨har, hix, hix1, htyok, hsub⟩ := hsh
  have infok : ∀ a ∈ l, (a.infer g).1 = 0 → (a.infer g).2.okB = true := fun a ha h => infer_ok a g (hsub a ha) hgo h
  generalize hr : (Trm.mk k ix ty l).infer g = r
  show Ev _ _ _ [.d (.slice (dTys g)), .agg [.d (.int .i64 k), .d (.int .i64 ix), .d (.int .i64 ty.kind), .d (.slice (dTys ty.args)), .d (.slice (dTms l))]] [] _ []
  -- live at block 0: t3(ptr), t4(ptr), t8
  -- live at block 1: t0, t3(ptr), t4(ptr), t8, t67, t68, t69
  -- live at block 2: t4(ptr)
  -- live at cond 0: t0, t3(ptr), t4(ptr)
  -- live at cond 1: t0, t3(ptr), t4(ptr)
  -- live at cond 2: t0, t3(ptr), t4(ptr)
  -- live at cond 3: t3(ptr), t4(ptr), t6(ptr)
  -- live at cond 4: t0, t3(ptr), t4(ptr), t8, t67, t68, t69
  -- live at cond 5: t0, t3(ptr), t4(ptr), t8, t11(ptr), t67, t68, t69
  -- live at cond 6: t4(ptr)
  -- live at cond 7: t4(ptr), t8
  -- live at cond 8: t4(ptr)
  -- live at cond 9: t4(ptr)
  -- live at cond 10: t4(ptr), t13(ptr)
  -- live at cond 11: t4(ptr)
  -- live at cond 12: t3(ptr), t4(ptr)
  -- live at cond 13: t4(ptr)
  -- live at cond 14: t4(ptr)
  -- live at cond 15: t4(ptr), t14(ptr)
  -- live at cond 16: t4(ptr)
  -- live at cond 17: t3(ptr), t4(ptr)
  -- live at cond 18: t4(ptr)
  -- live at cond 19: t3(ptr), t4(ptr), t8, t237
  -- live at cond 20: t4(ptr)
  -- live at cond 21: t3(ptr), t4(ptr), t8
  -- live at cond 22: t4(ptr), t8
  -- live at loop 0: t0, t3(ptr), t4(ptr), t8, t67, t68, t69
  refine ev_of_body (N := 262) (ks := []) (ρ0 := [(0, _), (1, _)]) (σ0 := []) (rs := [.cell 4 30, .tmp 5]) Tryd.func63 rfl (by kernel_rfl) rfl rfl rfl rfl rfl rfl rfl rfl rfl rfl (fun E ι0 => ?_)
  refine ac_ts mixed ?_
  refine s_box 3 rfl rfl rfl rfl rfl ?_
  refine s_alloc 4 zer30 rfl rfl rfl rfl ?_
  refine t_assign rfl rfl rfl ?_
  refine tr_nil ?_
  refine ac_seq ?_
  refine ac_ts mixed ?_
  first | refine t_fieldAddr fld34_0 rfl rfl rfl ?_ | refine t_fieldAddr_c fld34_0 rfl rfl rfl rfl rfl ?_
  first | refine t_load1 ty3 rfl rfl rfl rfl rfl ?_ | refine t_load1c ty3 rfl rfl rfl rfl ?_
  refine t_bin rfl rfl .eql rfl rfl ?_
  refine tr_nil ?_
  refine ac_bool (fun hb0 => ?_) (fun hb0 => ?_)
  · refine ac_cond rfl (fun _ => ?_) (fun hb => by cases hb)
    have hk : k = 1 := by simpa using hb0
    subst hk
    refine ac_seq ?_
    refine ac_ts mixed ?_
    first | refine t_fieldAddr fld34_1 rfl rfl rfl ?_ | refine t_fieldAddr_c fld34_1 rfl rfl rfl rfl rfl ?_
    first | refine t_load1 ty3 rfl rfl rfl rfl rfl ?_ | refine t_load1c ty3 rfl rfl rfl rfl ?_
    refine t_move rfl rfl rfl ?_
    refine t_len rfl sli27 rfl (by constructor) rfl rfl ?_
    refine t_bin rfl rfl .geq rfl rfl ?_
    refine tr_nil ?_
    refine ac_bool (fun hb1 => ?_) (fun hb1 => ?_)
    · refine ac_cond rfl (fun _ => ?_) (fun hb => by cases hb)
      refine ac_ts mixed ?_
      refine s_build (res := [_, _]) zer30 plc30 rfl rfl rfl rfl rfl ?_
      first | refine s_storeW ty30 rfl rfl rfl rfl rfl rfl rfl ?_ | refine s_store (ws := [_, _]) ty30 rfl rfl rfl rfl rfl rfl rfl rfl ?_
      refine t_assign rfl rfl rfl ?_
      refine tr_nil ?_
      refine ac_ret ?_
      refine ⟨.inr rfl, _, ⟨_, _, _, _, _, rfl, rfl, rfl, .inl (retAgg ty30 rfl), ⟨_, _, rfl, rfl, rfl⟩⟩, ?_, ?_⟩
      · have e : r = (6, .zero) := by rw [← hr]; simp only [Trm.infer, beq_self_eq_true, if_true]; rw [dTys_len] at hb1; rw [if_pos hb1]
        rw [e]
        (repeat' (first | exact VLe.rfl | exact VLes.rfl | exact VLes.nil | refine VLes.cons ?_ ?_ | refine VLe.agg ?_ | refine VLe.tup ?_ | exact VLe.own | exact VLe.full | exact VLe.nils | exact VLe.any | exact VLe.clo | exact VLe.fn | refine VLe.intE ?_ | refine VLe.boolE ?_ | refine VLe.sliceE ?_ | refine VLe.ownE ?_ | refine VLe.ownO ?_ | refine VLe.fullE ?_ | refine VLe.nilsE ?_))
      · (intro l o h; cases h)
    · refine ac_cond rfl (fun hb => by cases hb) (fun _ => ?_)
      have hlt : ix < g.length := by rw [dTys_len] at hb1; simpa using hb1
      have hi0 : g.length - 1 - ix.toNat < g.length := by omega
      have hgg := List.getElem?_eq_getElem hi0
      have hget := dTys_get hgg
      refine ac_skip ?_
      change AC _ _ _ _ _
      refine ac_ts mixed ?_
      refine t_move rfl rfl rfl ?_
      refine t_move rfl rfl rfl ?_
      refine t_len rfl sli27 rfl (by constructor) rfl rfl ?_
      refine s_bin (r' := .int .i64 ((g.length : Int) - 1)) rfl rfl .sub (by rw [dTys_len, i64_id (by omega) (by omega)]) rfl rfl ?_
      first | refine t_fieldAddr fld34_1 rfl rfl rfl ?_ | refine t_fieldAddr_c fld34_1 rfl rfl rfl rfl rfl ?_
      first | refine t_load1 ty3 rfl rfl rfl rfl rfl ?_ | refine t_load1c ty3 rfl rfl rfl rfl ?_
      refine s_bin (r' := .int .i64 ((g.length - 1 - ix.toNat : Nat) : Int)) rfl rfl .sub (by rw [i64_id (by omega) (by omega)]; congr 1; omega) rfl rfl ?_
      refine t_indexAddr sli27 rfl (by constructor) rfl (Int.natCast_nonneg _) hget rfl rfl rfl ?_
      first | refine t_load ty30 rfl rfl rfl rfl rfl rfl ?_ | refine s_loadWc ty30 rfl rfl rfl rfl ?_ | refine t_loadN (us := [_, _]) ty30 rfl rfl rfl rfl rfl rfl ?_ | refine t_loadNc (us := [_, _]) ty30 rfl rfl rfl rfl rfl ?_
      first | refine s_callF rfl .rfl (r1_Copy_ev _ (by have := (okB_iff.1 (hgo _ (List.getElem_mem hi0))).2; omega)) rfl rfl ?_ | refine s_callF rfl (by (repeat' (first | exact VLes.rfl | exact VLes.nil | exact VLe.rfl | refine VLes.cons ?_ ?_ | exact VLe.own | exact VLe.full | exact VLe.nils | refine VLe.agg ?_ | exact VLe.fullE (dTms_one _) | exact VLe.fullE (dTms_two _ _) | exact VLe.fullE (dTms_three _ _ _) | exact VLe.fullE (dTys_one _) | exact VLe.fullE (dTys_two _ _) | exact VLe.fullE (dTys_three _ _ _)))) (r1_Copy_ev _ (by have := (okB_iff.1 (hgo _ (List.getElem_mem hi0))).2; omega)) rfl rfl ?_
      first | refine s_storeW ty30 rfl rfl rfl rfl rfl rfl rfl ?_ | refine s_store (ws := [_, _]) ty30 rfl rfl rfl rfl rfl rfl rfl rfl ?_
      refine t_assign rfl rfl rfl ?_
      refine tr_nil ?_
      refine ac_ret ?_
      refine ⟨.inr rfl, _, ⟨_, _, _, _, _, rfl, rfl, rfl, .inl (retAgg ty30 rfl), ⟨_, _, rfl, rfl, rfl⟩⟩, ?_, ?_⟩
      · have e : r = (0, g[g.length - 1 - ix.toNat]) := by rw [← hr]; simp only [Trm.infer, beq_self_eq_true, if_true]; rw [dTys_len] at hb1; rw [if_neg (by simpa using hb1), getD_at _ _ hi0]
        rw [e]
        (repeat' (first | exact VLe.rfl | exact VLes.rfl | exact VLes.nil | refine VLes.cons ?_ ?_ | refine VLe.agg ?_ | refine VLe.tup ?_ | exact VLe.own | exact VLe.full | exact VLe.nils | exact VLe.any | exact VLe.clo | exact VLe.fn | refine VLe.intE ?_ | refine VLe.boolE ?_ | refine VLe.sliceE ?_ | refine VLe.ownE ?_ | refine VLe.ownO ?_ | refine VLe.fullE ?_ | refine VLe.nilsE ?_))
      · (intro l o h; cases h)
  · refine ac_cond rfl (fun hb => by cases hb) (fun _ => ?_)
    refine ac_skip ?_
    change AC _ _ _ _ _
    refine ac_seq ?_
    refine ac_ts mixed ?_
    first | refine t_fieldAddr fld34_0 rfl rfl rfl ?_ | refine t_fieldAddr_c fld34_0 rfl rfl rfl rfl rfl ?_
    first | refine t_load1 ty3 rfl rfl rfl rfl rfl ?_ | refine t_load1c ty3 rfl rfl rfl rfl ?_
    refine t_bin rfl rfl .eql rfl rfl ?_
    refine tr_nil ?_
    refine ac_bool (fun hb2 => ?_) (fun hb2 => ?_)
    · refine ac_cond rfl (fun _ => ?_) (fun hb => by cases hb)
      have hk : k = 2 := by simpa using hb2
      subst hk
      obtain ⟨b, rfl⟩ : ∃ b, l = [b] := List.length_eq_one_iff.1 (by simpa [arity] using har.symm)
      have hbm : b ∈ [b] := List.mem_singleton.2 rfl
      have hbz : b.big ≤ bigTms [b] := bigTms_mem hbm
      have htyo : ty.okB = true := by simpa [typed] using htyok
      have hgo2 : ∀ a ∈ g ++ [ty], a.okB = true := fun a ha => by
        rcases List.mem_append.1 ha with ha | ha
        · exact hgo a ha
        · simp at ha; subst ha; exact htyo
      have hl0 : g.length ≤ 2000000 := by omega
      refine ac_ds mixed ?_
      refine t_move rfl rfl rfl ?_
      refine t_move rfl rfl rfl ?_
      refine t_len rfl sli27 rfl (by constructor) rfl rfl ?_
      refine t_move rfl rfl rfl ?_
      refine t_len rfl sli27 rfl (by constructor) rfl rfl ?_
      refine t_slice3 sli27 rfl (by constructor) (by (first | exact dTys_sz _ | exact dTms_sz _ | exact dInts_sz _ | exact sz_nil | exact sz_one rfl | exact sz_app (dTys_sz _) (sz_one rfl) | exact sz_app (dTms_sz _) (sz_one rfl))) rfl rfl (Int.natCast_nonneg _) (Int.le_refl _) (List.take_of_length_le (Nat.le_refl _)) rfl rfl ?_
      first | refine t_fieldAddr fld34_2 rfl rfl rfl ?_ | refine t_fieldAddr_c fld34_2 rfl rfl rfl rfl rfl ?_
      first | refine t_load ty30 rfl rfl rfl rfl rfl rfl ?_ | refine s_loadWc ty30 rfl rfl rfl rfl ?_ | refine t_loadN (us := [_, _]) ty30 rfl rfl rfl rfl rfl rfl ?_ | refine t_loadNc (us := [_, _]) ty30 rfl rfl rfl rfl rfl ?_
      first | refine t_buildSlice sli27 (Opds.ofL rfl) (.cons (.agg .rfl) .nil) (by intro x hx; simp only [List.mem_cons, List.not_mem_nil, or_false] at hx; rcases hx with rfl <;> rfl) rfl rfl rfl rfl ?_ | refine t_buildSlice sli27 (Opds.ofL rfl) (Elems.ofL rfl) (by intro x hx; simp only [List.mem_cons, List.not_mem_nil, or_false] at hx; rcases hx with rfl <;> rfl) rfl rfl rfl rfl ?_
      first | refine t_append_own rfl sli27 rfl rfl (by constructor) rfl (by (first | exact dTys_sz _ | exact dTms_sz _ | exact dInts_sz _ | exact sz_nil | exact sz_one rfl | exact sz_app (dTys_sz _) (sz_one rfl) | exact sz_app (dTms_sz _) (sz_one rfl))) (by (first | exact dTys_sz _ | exact dTms_sz _ | exact dInts_sz _ | exact sz_nil | exact sz_one rfl | exact sz_app (dTys_sz _) (sz_one rfl) | exact sz_app (dTms_sz _) (sz_one rfl))) (by (simp only [dTys_len, dTms_len, dInts_len, List.length_append, List.length_cons, List.length_nil, List.length_take]; omega)) rfl (dTys_push g ty) rfl rfl ?_ | refine t_append rfl sli27 rfl (by first | exact VLe.nilfull | exact VLe.rfl) rfl (by constructor) (by (first | exact dTys_sz _ | exact dTms_sz _ | exact dInts_sz _ | exact sz_nil | exact sz_one rfl | exact sz_app (dTys_sz _) (sz_one rfl) | exact sz_app (dTms_sz _) (sz_one rfl))) (by (first | exact dTys_sz _ | exact dTms_sz _ | exact dInts_sz _ | exact sz_nil | exact sz_one rfl | exact sz_app (dTys_sz _) (sz_one rfl) | exact sz_app (dTms_sz _) (sz_one rfl))) (by (simp only [dTys_len, dTms_len, dInts_len, List.length_append, List.length_cons, List.length_nil, List.length_take]; omega)) rfl (dTys_push g ty) rfl rfl rfl ?_
      first | refine t_fieldAddr fld34_3 rfl rfl rfl ?_ | refine t_fieldAddr_c fld34_3 rfl rfl rfl rfl rfl ?_
      first | refine t_load1 ty32 rfl rfl rfl rfl rfl ?_ | refine t_load1c ty32 rfl rfl rfl rfl ?_
      refine t_indexAddr sli32 rfl (by constructor) rfl (by decide) (show (dTms [b])[0]? = some (dTm b) from dTms_get rfl) rfl rfl rfl ?_
      first | refine t_load ty34 rfl rfl rfl rfl rfl rfl ?_ | refine s_loadWc ty34 rfl rfl rfl rfl ?_ | refine t_loadN (us := [_, _, _, _, _]) ty34 rfl rfl rfl rfl rfl rfl ?_ | refine t_loadNc (us := [_, _, _, _, _]) ty34 rfl rfl rfl rfl rfl ?_
      refine s_callF rfl (.cons .own .rfl) (ih b hbm (by omega) (hsub b hbm) (g ++ [ty]) hgo2 (by simp; omega)) rfl rfl ?_
      refine t_move rfl rfl rfl ?_
      refine t_extract rfl rfl rfl rfl ?_
      refine t_extract rfl rfl rfl rfl ?_
      refine s_alloc 6 zer30 rfl rfl rfl rfl ?_
      first | refine s_storeW ty30 rfl rfl rfl rfl rfl rfl rfl ?_ | refine s_store (ws := [_, _]) ty30 rfl rfl rfl rfl rfl rfl rfl rfl ?_
      refine t_assign rfl rfl rfl ?_
      refine tr_nil ⟨by kernel_rfl, ?_⟩
      refine ac_seq ?_
      refine ac_ts mixed ?_
      refine t_move rfl rfl rfl ?_
      refine t_bin rfl rfl .neq rfl rfl ?_
      refine tr_nil ?_
      skip
      refine ac_bool (fun hb3 => ?_) (fun hb3 => ?_)
      · refine ac_cond rfl (fun _ => ?_) (fun hb => by cases hb)
        refine ac_ts mixed ?_
        refine s_build (res := [_, _]) zer30 plc30 rfl rfl rfl rfl rfl ?_
        refine t_move rfl rfl rfl ?_
        first | refine s_storeW ty30 rfl rfl rfl rfl rfl rfl rfl ?_ | refine s_store (ws := [_, _]) ty30 rfl rfl rfl rfl rfl rfl rfl rfl ?_
        refine t_assign rfl rfl rfl ?_
        refine tr_nil ?_
        refine ac_ret ?_
        refine ⟨.inr rfl, _, ⟨_, _, _, _, _, rfl, rfl, rfl, .inl (retAgg ty30 rfl), ⟨_, _, rfl, rfl, rfl⟩⟩, ?_, ?_⟩
        · have hb3' : ((b.infer (g ++ [ty])).1 != 0) = true := hb3
          have e : r = ((b.infer (g ++ [ty])).1, .zero) := by rw [← hr]; simp at hb3'; simp [Trm.infer, infers, hb3']
          rw [e]
          (repeat' (first | exact VLe.rfl | exact VLes.rfl | exact VLes.nil | refine VLes.cons ?_ ?_ | refine VLe.agg ?_ | refine VLe.tup ?_ | exact VLe.own | exact VLe.full | exact VLe.nils | exact VLe.any | exact VLe.clo | exact VLe.fn | refine VLe.intE ?_ | refine VLe.boolE ?_ | refine VLe.sliceE ?_ | refine VLe.ownE ?_ | refine VLe.ownO ?_ | refine VLe.fullE ?_ | refine VLe.nilsE ?_))
        · (intro l o h; cases h)
      · refine ac_cond rfl (fun hb => by cases hb) (fun _ => ?_)
        have hb3' : (b.infer (g ++ [ty])).1 = 0 := by simpa using hb3
        have hbo := infer_ok b (g ++ [ty]) (hsub b hbm) hgo2 hb3'
        have hbs := (okB_iff.1 hbo).2
        have hts := (okB_iff.1 htyo).2
        refine ac_skip ?_
        change AC _ _ _ _ _
        refine ac_ts mixed ?_
        first | refine t_fieldAddr fld34_2 rfl rfl rfl ?_ | refine t_fieldAddr_c fld34_2 rfl rfl rfl rfl rfl ?_
        first | refine t_load ty30 rfl rfl rfl rfl rfl rfl ?_ | refine s_loadWc ty30 rfl rfl rfl rfl ?_ | refine t_loadN (us := [_, _]) ty30 rfl rfl rfl rfl rfl rfl ?_ | refine t_loadNc (us := [_, _]) ty30 rfl rfl rfl rfl rfl ?_
        first | refine t_load ty30 rfl rfl rfl rfl rfl rfl ?_ | refine s_loadWc ty30 rfl rfl rfl rfl ?_ | refine t_loadN (us := [_, _]) ty30 rfl rfl rfl rfl rfl rfl ?_ | refine t_loadNc (us := [_, _]) ty30 rfl rfl rfl rfl rfl ?_
        first | refine s_callF rfl .rfl (r1_Fun_ev _ _ (by omega) (by omega)) rfl rfl ?_ | refine s_callF rfl (by (repeat' (first | exact VLes.rfl | exact VLes.nil | exact VLe.rfl | refine VLes.cons ?_ ?_ | exact VLe.own | exact VLe.full | exact VLe.nils | refine VLe.agg ?_ | exact VLe.fullE (dTms_one _) | exact VLe.fullE (dTms_two _ _) | exact VLe.fullE (dTms_three _ _ _) | exact VLe.fullE (dTys_one _) | exact VLe.fullE (dTys_two _ _) | exact VLe.fullE (dTys_three _ _ _)))) (r1_Fun_ev _ _ (by omega) (by omega)) rfl rfl ?_
        first | refine s_callF rfl .rfl (ok_ev _ (by simp [Typ.sz, szTys]; omega)) rfl rfl ?_ | refine s_callF rfl (by (repeat' (first | exact VLes.rfl | exact VLes.nil | exact VLe.rfl | refine VLes.cons ?_ ?_ | exact VLe.own | exact VLe.full | exact VLe.nils | refine VLe.agg ?_ | exact VLe.fullE (dTms_one _) | exact VLe.fullE (dTms_two _ _) | exact VLe.fullE (dTms_three _ _ _) | exact VLe.fullE (dTys_one _) | exact VLe.fullE (dTys_two _ _) | exact VLe.fullE (dTys_three _ _ _)))) (ok_ev _ (by simp [Typ.sz, szTys]; omega)) rfl rfl ?_
        refine t_extract rfl rfl rfl rfl ?_
        refine t_extract rfl rfl rfl rfl ?_
        first | refine s_storeW ty30 rfl rfl rfl rfl rfl rfl rfl ?_ | refine s_store (ws := [_, _]) ty30 rfl rfl rfl rfl rfl rfl rfl rfl ?_
        refine t_assign rfl rfl rfl ?_
        refine tr_nil ?_
        refine ac_ret ?_
        refine ⟨.inr rfl, _, ⟨_, _, _, _, _, rfl, rfl, rfl, .inl (retAgg ty30 rfl), ⟨_, _, rfl, rfl, rfl⟩⟩, ?_, ?_⟩
        · have e : r = okT (.func ty (b.infer (g ++ [ty])).2) := by rw [← hr]; simp [Trm.infer, infers, hb3', node]
          rw [e]
          (repeat' (first | exact VLe.rfl | exact VLes.rfl | exact VLes.nil | refine VLes.cons ?_ ?_ | refine VLe.agg ?_ | refine VLe.tup ?_ | exact VLe.own | exact VLe.full | exact VLe.nils | exact VLe.any | exact VLe.clo | exact VLe.fn | refine VLe.intE ?_ | refine VLe.boolE ?_ | refine VLe.sliceE ?_ | refine VLe.ownE ?_ | refine VLe.ownO ?_ | refine VLe.fullE ?_ | refine VLe.nilsE ?_))
        · (intro l o h; cases h)
    · refine ac_cond rfl (fun hb => by cases hb) (fun _ => ?_)
      refine ac_skip ?_
      change AC _ _ _ _ _
      refine ac_ts mixed ?_
      refine t_assign rfl rfl rfl ?_
      refine tr_nil ?_
      refine ac_seq ?_
      refine ac_ts mixed ?_
      first | refine t_fieldAddr fld34_3 rfl rfl rfl ?_ | refine t_fieldAddr_c fld34_3 rfl rfl rfl rfl rfl ?_
      first | refine t_load1 ty32 rfl rfl rfl rfl rfl ?_ | refine t_load1c ty32 rfl rfl rfl rfl ?_
      refine t_len rfl sli32 rfl (by constructor) rfl rfl ?_
      refine t_move rfl rfl rfl ?_
      refine tr_nil ?_
      refine ac_weak (weak_rowt (L := 100) (t := 8) (sz := 2) (e := 30) (es := []) rfl rfl VLe.nilfull) ?_
      refine ac_range mixed ((dTms l).length) (fun i => [(3, .ptr 3 0), (4, .ptr 4 0), (0, .d (.slice (dTys g))), (8, .own (dTys ((l.take i).map fun a => (a.infer g).2)) 100), (67, .d (.slice (dTms l)))]) (fun i => [(3, some (.cells [.d (.int .i64 k), .d (.int .i64 ix), .d (.int .i64 ty.kind), .d (.slice (dTys ty.args)), .d (.slice (dTms l))] 34)), (4, some (.cells [.d (.int .i64 0), .d .nils] 30)), (100, some (.row (dTys ((l.take i).map fun a => (a.infer g).2)).length 2 30))]) (fun i => [3, 4, 100]) (fun i => ∀ (j : Nat) a, j < i → l[j]? = some a → (a.infer g).1 = 0) (by simp) ?_ (by first | omega | (simp only [dTys_len, dTms_len, dInts_len, List.length_append, List.length_cons, List.length_nil, List.length_take]; omega)) rfl (fun i => ⟨rfl, rfl⟩) (fun i hi hI => ?_) (fun hI => ?_)
      · (refine weak_of ?_ ?_ rfl rfl rfl <;> (repeat' (first | exact trivial | refine ⟨⟨_, rfl, ?_⟩, ?_⟩ | exact OLe.rfl | refine OLe.cells ?_ | exact VLe.rfl | exact VLes.rfl | exact VLes.nil | refine VLes.cons ?_ ?_ | refine VLe.agg ?_ | refine VLe.tup ?_ | exact VLe.own | exact VLe.full | exact VLe.nils | exact VLe.any | exact VLe.clo | exact VLe.fn | refine VLe.intE ?_ | refine VLe.boolE ?_ | refine VLe.sliceE ?_ | refine VLe.ownE ?_ | refine VLe.ownO ?_ | refine VLe.fullE ?_ | refine VLe.nilsE ?_ | refine OLe.row ?_)))
      · rw [dTms_len] at hi
        have hg : l[i]? = some l[i] := List.getElem?_eq_getElem hi
        have hget := dTms_get hg
        have hm := List.getElem_mem hi
        have hsz := bigTms_mem hm
        refine ac_ts mixed ?_
        refine t_indexAddr sli32 rfl (by constructor) rfl (Int.natCast_nonneg _) hget rfl rfl rfl ?_
        first | refine t_load ty34 rfl rfl rfl rfl rfl rfl ?_ | refine s_loadWc ty34 rfl rfl rfl rfl ?_ | refine t_loadN (us := [_, _, _, _, _]) ty34 rfl rfl rfl rfl rfl rfl ?_ | refine t_loadNc (us := [_, _, _, _, _]) ty34 rfl rfl rfl rfl rfl ?_
        refine s_alloc 10 zer34 rfl rfl rfl rfl ?_
        first | refine s_storeW ty34 rfl rfl rfl rfl rfl rfl rfl ?_ | refine s_store (ws := [_, _, _, _, _]) ty34 rfl rfl rfl rfl rfl rfl rfl rfl ?_
        refine tr_nil ?_
        refine ac_ts mixed ?_
        refine t_move rfl rfl rfl ?_
        first | refine t_load ty34 rfl rfl rfl rfl rfl rfl ?_ | refine s_loadWc ty34 rfl rfl rfl rfl ?_ | refine t_loadN (us := [_, _, _, _, _]) ty34 rfl rfl rfl rfl rfl rfl ?_ | refine t_loadNc (us := [_, _, _, _, _]) ty34 rfl rfl rfl rfl rfl ?_
        first | refine s_callF rfl .rfl (ih _ hm (by omega) (hsub _ hm) g hgo (by omega)) rfl rfl ?_ | refine s_callF rfl (by (repeat' (first | exact VLes.rfl | exact VLes.nil | exact VLe.rfl | refine VLes.cons ?_ ?_ | exact VLe.own | exact VLe.full | exact VLe.nils | refine VLe.agg ?_ | exact VLe.fullE (dTms_one _) | exact VLe.fullE (dTms_two _ _) | exact VLe.fullE (dTms_three _ _ _) | exact VLe.fullE (dTys_one _) | exact VLe.fullE (dTys_two _ _) | exact VLe.fullE (dTys_three _ _ _)))) (ih _ hm (by omega) (hsub _ hm) g hgo (by omega)) rfl rfl ?_
        refine t_move rfl rfl rfl ?_
        refine t_extract rfl rfl rfl rfl ?_
        refine t_extract rfl rfl rfl rfl ?_
        refine s_alloc 11 zer30 rfl rfl rfl rfl ?_
        first | refine s_storeW ty30 rfl rfl rfl rfl rfl rfl rfl ?_ | refine s_store (ws := [_, _]) ty30 rfl rfl rfl rfl rfl rfl rfl rfl ?_
        refine t_assign rfl rfl rfl ?_
        refine tr_nil ?_
        refine ac_seq ?_
        refine ac_ts mixed ?_
        refine t_move rfl rfl rfl ?_
        refine t_bin rfl rfl .neq rfl rfl ?_
        refine tr_nil ?_
        refine ac_bool (fun hb5 => ?_) (fun hb5 => ?_)
        · refine ac_cond rfl (fun _ => ?_) (fun hb => by cases hb)
          refine ac_ts mixed ?_
          refine s_build (res := [_, _]) zer30 plc30 rfl rfl rfl rfl rfl ?_
          refine t_move rfl rfl rfl ?_
          first | refine s_storeW ty30 rfl rfl rfl rfl rfl rfl rfl ?_ | refine s_store (ws := [_, _]) ty30 rfl rfl rfl rfl rfl rfl rfl rfl ?_
          refine t_assign rfl rfl rfl ?_
          refine tr_nil ?_
          refine ac_ret ?_
          refine ⟨.inr rfl, _, ⟨_, _, _, _, _, rfl, rfl, rfl, .inl (retAgg ty30 rfl), ⟨_, _, rfl, rfl, rfl⟩⟩, ?_, ?_⟩
          · have e : r = ((l[i].infer g).1, .zero) := by rw [← hr]; exact infer_first hb0 hb2 hg hI (by simpa using hb5)
            rw [e]
            (repeat' (first | exact VLe.rfl | exact VLes.rfl | exact VLes.nil | refine VLes.cons ?_ ?_ | refine VLe.agg ?_ | refine VLe.tup ?_ | exact VLe.own | exact VLe.full | exact VLe.nils | exact VLe.any | exact VLe.clo | exact VLe.fn | refine VLe.intE ?_ | refine VLe.boolE ?_ | refine VLe.sliceE ?_ | refine VLe.ownE ?_ | refine VLe.ownO ?_ | refine VLe.fullE ?_ | refine VLe.nilsE ?_))
          · (intro l o h; cases h)
        · refine ac_cond rfl (fun hb => by cases hb) (fun _ => ?_)
          refine ac_skip ?_
          change AC _ _ _ _ _
          refine ac_t mixed ?_
          refine t_move rfl rfl rfl ?_
          first | refine t_load ty30 rfl rfl rfl rfl rfl rfl ?_ | refine s_loadWc ty30 rfl rfl rfl rfl ?_ | refine t_loadN (us := [_, _]) ty30 rfl rfl rfl rfl rfl rfl ?_ | refine t_loadNc (us := [_, _]) ty30 rfl rfl rfl rfl rfl ?_
          first | refine t_buildSlice sli27 (Opds.ofL rfl) (.cons (.agg .rfl) .nil) (by intro x hx; simp only [List.mem_cons, List.not_mem_nil, or_false] at hx; rcases hx with rfl <;> rfl) rfl rfl rfl rfl ?_ | refine t_buildSlice sli27 (Opds.ofL rfl) (Elems.ofL rfl) (by intro x hx; simp only [List.mem_cons, List.not_mem_nil, or_false] at hx; rcases hx with rfl <;> rfl) rfl rfl rfl rfl ?_
          first | refine t_append_own rfl sli27 rfl rfl (by constructor) rfl (by (first | exact dTys_sz _ | exact dTms_sz _ | exact dInts_sz _ | exact sz_nil | exact sz_one rfl | exact sz_app (dTys_sz _) (sz_one rfl) | exact sz_app (dTms_sz _) (sz_one rfl))) (by (first | exact dTys_sz _ | exact dTms_sz _ | exact dInts_sz _ | exact sz_nil | exact sz_one rfl | exact sz_app (dTys_sz _) (sz_one rfl) | exact sz_app (dTms_sz _) (sz_one rfl))) (by simp only [dTys_len, List.length_map, List.length_take, List.length_cons, List.length_nil]; omega) rfl rfl rfl rfl ?_ | refine t_append rfl sli27 rfl (by first | exact VLe.nilfull | exact VLe.rfl) rfl (by constructor) (by (first | exact dTys_sz _ | exact dTms_sz _ | exact dInts_sz _ | exact sz_nil | exact sz_one rfl | exact sz_app (dTys_sz _) (sz_one rfl) | exact sz_app (dTms_sz _) (sz_one rfl))) (by (first | exact dTys_sz _ | exact dTms_sz _ | exact dInts_sz _ | exact sz_nil | exact sz_one rfl | exact sz_app (dTys_sz _) (sz_one rfl) | exact sz_app (dTms_sz _) (sz_one rfl))) (by simp only [dTys_len, List.length_map, List.length_take, List.length_cons, List.length_nil]; omega) rfl rfl rfl rfl rfl ?_
          refine t_assign rfl rfl rfl ?_
          refine tr_nil ?_
          show _ ∧ Weak _ _ _
          refine ⟨fun j a hj ha => by
             by_cases e : j = i
             · subst e; rw [hg] at ha; injection ha with ha; subst ha; simpa using hb5
             · exact hI j a (by omega) ha, ?_⟩
          rw [show dTys ((l.take (i + 1)).map fun a => (a.infer g).2) = dTys ((l.take i).map fun a => (a.infer g).2) ++ [dTy (l[i].infer g).2] by rw [take_succ_of hg, List.map_append, dTys_push]; rfl]
          (refine weak_of ?_ ?_ rfl rfl rfl <;> (repeat' (first | exact trivial | refine ⟨⟨_, rfl, ?_⟩, ?_⟩ | exact OLe.rfl | refine OLe.cells ?_ | exact VLe.rfl | exact VLes.rfl | exact VLes.nil | refine VLes.cons ?_ ?_ | refine VLe.agg ?_ | refine VLe.tup ?_ | exact VLe.own | exact VLe.full | exact VLe.nils | exact VLe.any | exact VLe.clo | exact VLe.fn | refine VLe.intE ?_ | refine VLe.boolE ?_ | refine VLe.sliceE ?_ | refine VLe.ownE ?_ | refine VLe.ownO ?_ | refine VLe.fullE ?_ | refine VLe.nilsE ?_ | refine OLe.row ?_)))
      · have hall : ∀ a ∈ l, (a.infer g).1 = 0 := fun a ha => by
          obtain ⟨j, h1, h2⟩ := List.getElem_of_mem ha
          exact hI j a (by rw [dTms_len]; omega) (by rw [List.getElem?_eq_getElem h1, h2])
        have hnode := (infer_node (i := ix) (ty := ty) hb0 hb2 hall).symm.trans hr
        rw [dTms_len, List.take_length]
        have huso : ∀ a ∈ l.map (fun a => (a.infer g).2), a.okB = true := fun a ha => by
          obtain ⟨b, hb, rfl⟩ := List.mem_map.1 ha
          exact infok b hb (hall b hb)
        have husl : arity k = some (l.map fun a => (a.infer g).2).length := by rw [List.length_map]; exact har
        generalize (l.map fun a => (a.infer g).2) = us at hnode huso husl ⊢
        have h0 : ∀ {n : Nat}, us.length = n → ∀ {j : Nat}, j < n → (dTys us)[j]? = some (dTy (us.getD j .zero)) := fun h1 _ h2 => dTys_getD (by omega)
        have hok : ∀ {n : Nat}, us.length = n → ∀ {j : Nat}, j < n → (us.getD j .zero).okB = true := fun h1 _ h2 => getD_mem_ok huso (by omega)
        have hszs : ∀ {n : Nat}, us.length = n → ∀ {j : Nat}, j < n → (us.getD j .zero).sz ≤ 64 := fun h1 _ h2 => (okB_iff.1 (hok h1 h2)).2
        have harg : ∀ {n : Nat}, us.length = n → ∀ {j : Nat}, j < n → ((us.getD j .zero).kind = 3 ∨ (us.getD j .zero).kind = 4) → ∀ {m : Nat}, m < 2 → (dTys (us.getD j .zero).args)[m]? = some (dTy ((us.getD j .zero).args.getD m .zero)) := fun h1 _ h2 h3 _ h4 => dTys_getD (by rw [shape_args (okB_iff.1 (hok h1 h2)).1 h3]; exact h4)
        have hargs : ∀ {n : Nat}, us.length = n → ∀ {j : Nat}, j < n → ((us.getD j .zero).kind = 3 ∨ (us.getD j .zero).kind = 4) → ∀ {m : Nat}, m < 2 → ((us.getD j .zero).args.getD m .zero).sz ≤ 64 := fun h1 _ h2 h3 _ h4 => (okB_iff.1 (okB_arg (hok h1 h2) (by rw [shape_args (okB_iff.1 (hok h1 h2)).1 h3]; exact h4))).2
        change AC _ _ _ _ _
        refine ac_ts mixed ?_
        first | refine s_callF rfl .rfl (r1_Nat_ev) rfl rfl ?_ | refine s_callF rfl (by (repeat' (first | exact VLes.rfl | exact VLes.nil | exact VLe.rfl | refine VLes.cons ?_ ?_ | exact VLe.own | exact VLe.full | exact VLe.nils | refine VLe.agg ?_ | exact VLe.fullE (dTms_one _) | exact VLe.fullE (dTms_two _ _) | exact VLe.fullE (dTms_three _ _ _) | exact VLe.fullE (dTys_one _) | exact VLe.fullE (dTys_two _ _) | exact VLe.fullE (dTys_three _ _ _)))) (r1_Nat_ev) rfl rfl ?_
        first | refine s_callF rfl .rfl (r1_List_ev) rfl rfl ?_ | refine s_callF rfl (by (repeat' (first | exact VLes.rfl | exact VLes.nil | exact VLe.rfl | refine VLes.cons ?_ ?_ | exact VLe.own | exact VLe.full | exact VLe.nils | refine VLe.agg ?_ | exact VLe.fullE (dTms_one _) | exact VLe.fullE (dTms_two _ _) | exact VLe.fullE (dTms_three _ _ _) | exact VLe.fullE (dTys_one _) | exact VLe.fullE (dTys_two _ _) | exact VLe.fullE (dTys_three _ _ _)))) (r1_List_ev) rfl rfl ?_
        refine s_alloc 13 zer30 rfl rfl rfl rfl ?_
        refine s_alloc 14 zer30 rfl rfl rfl rfl ?_
        first | refine s_storeW ty30 rfl rfl rfl rfl rfl rfl rfl ?_ | refine s_store (ws := [_, _]) ty30 rfl rfl rfl rfl rfl rfl rfl rfl ?_
        first | refine s_storeW ty30 rfl rfl rfl rfl rfl rfl rfl ?_ | refine s_store (ws := [_, _]) ty30 rfl rfl rfl rfl rfl rfl rfl rfl ?_
        refine tr_nil ?_
        refine ac_seq ?_
        refine ac_ts mixed ?_
        first | refine t_fieldAddr fld34_0 rfl rfl rfl ?_ | refine t_fieldAddr_c fld34_0 rfl rfl rfl rfl rfl ?_
        first | refine t_load1 ty3 rfl rfl rfl rfl rfl ?_ | refine t_load1c ty3 rfl rfl rfl rfl ?_
        refine tr_nil ?_
        refine ac_block ?_
        refine ac_ts mixed ?_
        refine t_bin rfl rfl .eql rfl rfl ?_
        refine t_assign rfl rfl rfl ?_
        refine tr_nil ?_
        refine ac_bool (fun hb6 => ?_) (fun hb6 => ?_)
        · refine ac_cond rfl (fun _ => ?_) (fun hb => by cases hb)
          have hk : k = 3 := by simpa using hb6
          subst hk
          have hn : us.length = 2 := by simpa [arity] using husl.symm
          refine ac_seq ?_
          refine ac_ds mixed ?_
          refine t_move rfl rfl rfl ?_
          refine t_indexAddr sli27 rfl (by constructor) rfl (by decide) (h0 hn (by decide)) rfl rfl rfl ?_
          first | refine t_fieldAddr fld30_0 rfl rfl rfl ?_ | refine t_fieldAddr_c fld30_0 rfl rfl rfl rfl rfl ?_
          first | refine t_load1 ty3 rfl rfl rfl rfl rfl ?_ | refine t_load1c ty3 rfl rfl rfl rfl ?_
          refine t_bin rfl rfl .neq rfl rfl ?_
          refine t_move rfl rfl rfl ?_
          refine tr_bool (fun h99 => ?_) (fun h99 => ?_)
          · refine t_skip ⟨_, rfl, .inl ⟨_, rfl, rfl⟩⟩ rfl ?_
            refine t_skip ⟨_, rfl, .inl ⟨_, rfl, rfl⟩⟩ rfl ?_
            refine t_skip ⟨_, rfl, .inl ⟨_, rfl, rfl⟩⟩ rfl ?_
            refine t_skip ⟨_, rfl, .inl ⟨_, rfl, rfl⟩⟩ rfl ?_
            refine t_skip ⟨_, rfl, .inl ⟨_, rfl, rfl⟩⟩ rfl ?_
            refine t_skip ⟨_, rfl, .inl ⟨_, rfl, rfl⟩⟩ rfl ?_
            refine t_skip ⟨_, rfl, .inl ⟨_, rfl, rfl⟩⟩ rfl ?_
            refine t_skip ⟨_, rfl, .inl ⟨_, rfl, rfl⟩⟩ rfl ?_
            refine t_skip ⟨_, rfl, .inl ⟨_, rfl, rfl⟩⟩ rfl ?_
            refine t_skip ⟨_, rfl, .inl ⟨_, rfl, rfl⟩⟩ rfl ?_
            refine t_skip ⟨_, rfl, .inl ⟨_, rfl, rfl⟩⟩ rfl ?_
            refine t_pick_t rfl rfl rfl rfl rfl ?_
            refine tr_nil ⟨by kernel_rfl, ?_⟩
            refine ac_cond rfl (fun hb => ?_) (fun hb => by cases hb)
            refine ac_ts mixed ?_
            refine s_build (res := [_, _]) zer30 plc30 rfl rfl rfl rfl rfl ?_
            first | refine s_storeW ty30 rfl rfl rfl rfl rfl rfl rfl ?_ | refine s_store (ws := [_, _]) ty30 rfl rfl rfl rfl rfl rfl rfl rfl ?_
            refine t_assign rfl rfl rfl ?_
            refine tr_nil ?_
            refine ac_ret ?_
            refine ⟨.inr rfl, _, ⟨_, _, _, _, _, rfl, rfl, rfl, .inl (retAgg ty30 rfl), ⟨_, _, rfl, rfl, rfl⟩⟩, ?_, ?_⟩
            · have e : r = (7, .zero) := by rw [← hnode]; simp_all [node, dTy]
              rw [e]
              (repeat' (first | exact VLe.rfl | exact VLes.rfl | exact VLes.nil | refine VLes.cons ?_ ?_ | refine VLe.agg ?_ | refine VLe.tup ?_ | exact VLe.own | exact VLe.full | exact VLe.nils | exact VLe.any | exact VLe.clo | exact VLe.fn | refine VLe.intE ?_ | refine VLe.boolE ?_ | refine VLe.sliceE ?_ | refine VLe.ownE ?_ | refine VLe.ownO ?_ | refine VLe.fullE ?_ | refine VLe.nilsE ?_))
            · (intro l o h; cases h)
          · have hk4 : (us.getD 0 .zero).kind = 4 := by simpa using h99
            refine t_move rfl ⟨_, rfl, .inl ⟨_, rfl, rfl⟩⟩ rfl ?_
            refine t_indexAddr sli27 rfl (by constructor) rfl (by decide) (h0 hn (by decide)) rfl ⟨_, rfl, .inl ⟨_, rfl, rfl⟩⟩ rfl ?_
            first | refine t_fieldAddr fld30_1 rfl ⟨_, rfl, .inl ⟨_, rfl, rfl⟩⟩ rfl ?_ | refine t_fieldAddr_c fld30_1 rfl rfl ⟨_, rfl, .inl ⟨_, rfl, rfl⟩⟩ rfl rfl ?_
            first | refine t_load1 ty27 rfl rfl rfl ⟨_, rfl, .inl ⟨_, rfl, rfl⟩⟩ rfl ?_ | refine t_load1c ty27 rfl rfl ⟨_, rfl, .inl ⟨_, rfl, rfl⟩⟩ rfl ?_
            refine t_indexAddr sli27 rfl (by constructor) rfl (by decide) (harg hn (by decide) (.inr hk4) (by decide)) rfl ⟨_, rfl, .inl ⟨_, rfl, rfl⟩⟩ rfl ?_
            first | refine t_load ty30 rfl rfl rfl rfl ⟨_, rfl, .inl ⟨_, rfl, rfl⟩⟩ rfl ?_ | refine s_loadWc ty30 rfl rfl ⟨_, rfl, .inl ⟨_, rfl, rfl⟩⟩ rfl ?_ | refine t_loadN (us := [_, _]) ty30 rfl rfl rfl rfl ⟨_, rfl, .inl ⟨_, rfl, rfl⟩⟩ rfl ?_ | refine t_loadNc (us := [_, _]) ty30 rfl rfl rfl ⟨_, rfl, .inl ⟨_, rfl, rfl⟩⟩ rfl ?_
            refine t_move rfl ⟨_, rfl, .inl ⟨_, rfl, rfl⟩⟩ rfl ?_
            refine t_indexAddr sli27 rfl (by constructor) rfl (by decide) (h0 hn (by decide)) rfl ⟨_, rfl, .inl ⟨_, rfl, rfl⟩⟩ rfl ?_
            first | refine t_load ty30 rfl rfl rfl rfl ⟨_, rfl, .inl ⟨_, rfl, rfl⟩⟩ rfl ?_ | refine s_loadWc ty30 rfl rfl ⟨_, rfl, .inl ⟨_, rfl, rfl⟩⟩ rfl ?_ | refine t_loadN (us := [_, _]) ty30 rfl rfl rfl rfl ⟨_, rfl, .inl ⟨_, rfl, rfl⟩⟩ rfl ?_ | refine t_loadNc (us := [_, _]) ty30 rfl rfl rfl ⟨_, rfl, .inl ⟨_, rfl, rfl⟩⟩ rfl ?_
            first | refine s_callF rfl .rfl (r1_Same_ev _ (Nat.le_trans (hargs hn (j := 0) (by decide) (.inr hk4) (m := 0) (by decide)) (by decide)) _) ⟨_, rfl, .inl ⟨_, rfl, rfl⟩⟩ rfl ?_ | refine s_callF rfl (by (repeat' (first | exact VLes.rfl | exact VLes.nil | exact VLe.rfl | refine VLes.cons ?_ ?_ | exact VLe.own | exact VLe.full | exact VLe.nils | refine VLe.agg ?_ | exact VLe.fullE (dTms_one _) | exact VLe.fullE (dTms_two _ _) | exact VLe.fullE (dTms_three _ _ _) | exact VLe.fullE (dTys_one _) | exact VLe.fullE (dTys_two _ _) | exact VLe.fullE (dTys_three _ _ _)))) (r1_Same_ev _ (Nat.le_trans (hargs hn (j := 0) (by decide) (.inr hk4) (m := 0) (by decide)) (by decide)) _) ⟨_, rfl, .inl ⟨_, rfl, rfl⟩⟩ rfl ?_
            refine t_not rfl ⟨_, rfl, .inl ⟨_, rfl, rfl⟩⟩ rfl ?_
            refine t_pick_f rfl rfl rfl rfl rfl ?_
            refine tr_nil ⟨by kernel_rfl, ?_⟩
            refine ac_bool (fun hb7 => ?_) (fun hb7 => ?_)
            · refine ac_cond rfl (fun _ => ?_) (fun hb => by cases hb)
              refine ac_ts mixed ?_
              refine s_build (res := [_, _]) zer30 plc30 rfl rfl rfl rfl rfl ?_
              first | refine s_storeW ty30 rfl rfl rfl rfl rfl rfl rfl ?_ | refine s_store (ws := [_, _]) ty30 rfl rfl rfl rfl rfl rfl rfl rfl ?_
              refine t_assign rfl rfl rfl ?_
              refine tr_nil ?_
              refine ac_ret ?_
              refine ⟨.inr rfl, _, ⟨_, _, _, _, _, rfl, rfl, rfl, .inl (retAgg ty30 rfl), ⟨_, _, rfl, rfl, rfl⟩⟩, ?_, ?_⟩
              · have e : r = (7, .zero) := by rw [← hnode]; simp_all [node, dTy]
                rw [e]
                (repeat' (first | exact VLe.rfl | exact VLes.rfl | exact VLes.nil | refine VLes.cons ?_ ?_ | refine VLe.agg ?_ | refine VLe.tup ?_ | exact VLe.own | exact VLe.full | exact VLe.nils | exact VLe.any | exact VLe.clo | exact VLe.fn | refine VLe.intE ?_ | refine VLe.boolE ?_ | refine VLe.sliceE ?_ | refine VLe.ownE ?_ | refine VLe.ownO ?_ | refine VLe.fullE ?_ | refine VLe.nilsE ?_))
              · (intro l o h; cases h)
            · refine ac_cond rfl (fun hb => by cases hb) (fun _ => ?_)
              refine ac_skip ?_
              change AC _ _ _ _ _
              refine ac_ts mixed ?_
              refine t_move rfl rfl rfl ?_
              refine t_indexAddr sli27 rfl (by constructor) rfl (by decide) (h0 hn (by decide)) rfl rfl rfl ?_
              first | refine t_fieldAddr fld30_1 rfl rfl rfl ?_ | refine t_fieldAddr_c fld30_1 rfl rfl rfl rfl rfl ?_
              first | refine t_load1 ty27 rfl rfl rfl rfl rfl ?_ | refine t_load1c ty27 rfl rfl rfl rfl ?_
              refine t_indexAddr sli27 rfl (by constructor) rfl (by decide) (harg hn (by decide) (.inr hk4) (by decide)) rfl rfl rfl ?_
              first | refine t_load ty30 rfl rfl rfl rfl rfl rfl ?_ | refine s_loadWc ty30 rfl rfl rfl rfl ?_ | refine t_loadN (us := [_, _]) ty30 rfl rfl rfl rfl rfl rfl ?_ | refine t_loadNc (us := [_, _]) ty30 rfl rfl rfl rfl rfl ?_
              first | refine s_storeW ty30 rfl rfl rfl rfl rfl rfl rfl ?_ | refine s_store (ws := [_, _]) ty30 rfl rfl rfl rfl rfl rfl rfl rfl ?_
              refine t_assign rfl rfl rfl ?_
              refine tr_nil ?_
              refine ac_ret ?_
              refine ⟨.inr rfl, _, ⟨_, _, _, _, _, rfl, rfl, rfl, .inl (retAgg ty30 rfl), ⟨_, _, rfl, rfl, rfl⟩⟩, ?_, ?_⟩
              · have e : r = (0, (us.getD 0 .zero).args.getD 1 .zero) := by rw [← hnode]; simp_all [node]
                rw [e]
                (repeat' (first | exact VLe.rfl | exact VLes.rfl | exact VLes.nil | refine VLes.cons ?_ ?_ | refine VLe.agg ?_ | refine VLe.tup ?_ | exact VLe.own | exact VLe.full | exact VLe.nils | exact VLe.any | exact VLe.clo | exact VLe.fn | refine VLe.intE ?_ | refine VLe.boolE ?_ | refine VLe.sliceE ?_ | refine VLe.ownE ?_ | refine VLe.ownO ?_ | refine VLe.fullE ?_ | refine VLe.nilsE ?_))
              · (intro l o h; cases h)
        · refine ac_cond rfl (fun hb => by cases hb) (fun _ => ?_)
          refine ac_ts mixed ?_
          refine t_bin rfl rfl .eql rfl rfl ?_
          refine t_assign rfl rfl rfl ?_
          refine tr_nil ?_
          refine ac_bool (fun hb8 => ?_) (fun hb8 => ?_)
          · refine ac_cond rfl (fun _ => ?_) (fun hb => by cases hb)
            refine ac_ts mixed ?_
            first | refine t_load ty30 rfl rfl rfl rfl rfl rfl ?_ | refine s_loadWc ty30 rfl rfl rfl rfl ?_ | refine t_loadN (us := [_, _]) ty30 rfl rfl rfl rfl rfl rfl ?_ | refine t_loadNc (us := [_, _]) ty30 rfl rfl rfl rfl rfl ?_
            first | refine s_storeW ty30 rfl rfl rfl rfl rfl rfl rfl ?_ | refine s_store (ws := [_, _]) ty30 rfl rfl rfl rfl rfl rfl rfl rfl ?_
            refine t_assign rfl rfl rfl ?_
            refine tr_nil ?_
            refine ac_ret ?_
            refine ⟨.inr rfl, _, ⟨_, _, _, _, _, rfl, rfl, rfl, .inl (retAgg ty30 rfl), ⟨_, _, rfl, rfl, rfl⟩⟩, ?_, ?_⟩
            · have e : r = (0, .nat) := by rw [← hnode]; simp_all [node]
              rw [e]
              (repeat' (first | exact VLe.rfl | exact VLes.rfl | exact VLes.nil | refine VLes.cons ?_ ?_ | refine VLe.agg ?_ | refine VLe.tup ?_ | exact VLe.own | exact VLe.full | exact VLe.nils | exact VLe.any | exact VLe.clo | exact VLe.fn | refine VLe.intE ?_ | refine VLe.boolE ?_ | refine VLe.sliceE ?_ | refine VLe.ownE ?_ | refine VLe.ownO ?_ | refine VLe.fullE ?_ | refine VLe.nilsE ?_))
            · (intro l o h; cases h)
          · refine ac_cond rfl (fun hb => by cases hb) (fun _ => ?_)
            refine ac_ts mixed ?_
            refine t_bin rfl rfl .eql rfl rfl ?_
            refine t_assign rfl rfl rfl ?_
            refine tr_nil ?_
            refine ac_bool (fun hb9 => ?_) (fun hb9 => ?_)
            · refine ac_cond rfl (fun _ => ?_) (fun hb => by cases hb)
              have hk : k = 5 := by simpa using hb9
              subst hk
              have hn : us.length = 1 := by simpa [arity] using husl.symm
              refine ac_seq ?_
              refine ac_ds mixed ?_
              refine t_move rfl rfl rfl ?_
              refine t_indexAddr sli27 rfl (by constructor) rfl (by decide) (h0 hn (by decide)) rfl rfl rfl ?_
              first | refine t_load ty30 rfl rfl rfl rfl rfl rfl ?_ | refine s_loadWc ty30 rfl rfl rfl rfl ?_ | refine t_loadN (us := [_, _]) ty30 rfl rfl rfl rfl rfl rfl ?_ | refine t_loadNc (us := [_, _]) ty30 rfl rfl rfl rfl rfl ?_
              first | refine t_load ty30 rfl rfl rfl rfl rfl rfl ?_ | refine s_loadWc ty30 rfl rfl rfl rfl ?_ | refine t_loadN (us := [_, _]) ty30 rfl rfl rfl rfl rfl rfl ?_ | refine t_loadNc (us := [_, _]) ty30 rfl rfl rfl rfl rfl ?_
              first | refine s_callF rfl .rfl (r1_Same_ev _ (Nat.le_trans (hszs hn (j := 0) (by decide)) (by decide)) _) rfl rfl ?_ | refine s_callF rfl (by (repeat' (first | exact VLes.rfl | exact VLes.nil | exact VLe.rfl | refine VLes.cons ?_ ?_ | exact VLe.own | exact VLe.full | exact VLe.nils | refine VLe.agg ?_ | exact VLe.fullE (dTms_one _) | exact VLe.fullE (dTms_two _ _) | exact VLe.fullE (dTms_three _ _ _) | exact VLe.fullE (dTys_one _) | exact VLe.fullE (dTys_two _ _) | exact VLe.fullE (dTys_three _ _ _)))) (r1_Same_ev _ (Nat.le_trans (hszs hn (j := 0) (by decide)) (by decide)) _) rfl rfl ?_
              refine t_not rfl rfl rfl ?_
              refine tr_nil ⟨by kernel_rfl, ?_⟩
              refine ac_bool (fun hb10 => ?_) (fun hb10 => ?_)
              · refine ac_cond rfl (fun _ => ?_) (fun hb => by cases hb)
                refine ac_ts mixed ?_
                refine s_build (res := [_, _]) zer30 plc30 rfl rfl rfl rfl rfl ?_
                first | refine s_storeW ty30 rfl rfl rfl rfl rfl rfl rfl ?_ | refine s_store (ws := [_, _]) ty30 rfl rfl rfl rfl rfl rfl rfl rfl ?_
                refine t_assign rfl rfl rfl ?_
                refine tr_nil ?_
                refine ac_ret ?_
                refine ⟨.inr rfl, _, ⟨_, _, _, _, _, rfl, rfl, rfl, .inl (retAgg ty30 rfl), ⟨_, _, rfl, rfl, rfl⟩⟩, ?_, ?_⟩
                · have e : r = (7, .zero) := by rw [← hnode]; simp_all [node, Typ.nat]
                  rw [e]
                  (repeat' (first | exact VLe.rfl | exact VLes.rfl | exact VLes.nil | refine VLes.cons ?_ ?_ | refine VLe.agg ?_ | refine VLe.tup ?_ | exact VLe.own | exact VLe.full | exact VLe.nils | exact VLe.any | exact VLe.clo | exact VLe.fn | refine VLe.intE ?_ | refine VLe.boolE ?_ | refine VLe.sliceE ?_ | refine VLe.ownE ?_ | refine VLe.ownO ?_ | refine VLe.fullE ?_ | refine VLe.nilsE ?_))
                · (intro l o h; cases h)
              · refine ac_cond rfl (fun hb => by cases hb) (fun _ => ?_)
                refine ac_skip ?_
                change AC _ _ _ _ _
                refine ac_ts mixed ?_
                first | refine t_load ty30 rfl rfl rfl rfl rfl rfl ?_ | refine s_loadWc ty30 rfl rfl rfl rfl ?_ | refine t_loadN (us := [_, _]) ty30 rfl rfl rfl rfl rfl rfl ?_ | refine t_loadNc (us := [_, _]) ty30 rfl rfl rfl rfl rfl ?_
                first | refine s_storeW ty30 rfl rfl rfl rfl rfl rfl rfl ?_ | refine s_store (ws := [_, _]) ty30 rfl rfl rfl rfl rfl rfl rfl rfl ?_
                refine t_assign rfl rfl rfl ?_
                refine tr_nil ?_
                refine ac_ret ?_
                refine ⟨.inr rfl, _, ⟨_, _, _, _, _, rfl, rfl, rfl, .inl (retAgg ty30 rfl), ⟨_, _, rfl, rfl, rfl⟩⟩, ?_, ?_⟩
                · have e : r = (0, .nat) := by rw [← hnode]; simp_all [node, Typ.nat]
                  rw [e]
                  (repeat' (first | exact VLe.rfl | exact VLes.rfl | exact VLes.nil | refine VLes.cons ?_ ?_ | refine VLe.agg ?_ | refine VLe.tup ?_ | exact VLe.own | exact VLe.full | exact VLe.nils | exact VLe.any | exact VLe.clo | exact VLe.fn | refine VLe.intE ?_ | refine VLe.boolE ?_ | refine VLe.sliceE ?_ | refine VLe.ownE ?_ | refine VLe.ownO ?_ | refine VLe.fullE ?_ | refine VLe.nilsE ?_))
                · (intro l o h; cases h)
            · refine ac_cond rfl (fun hb => by cases hb) (fun _ => ?_)
              refine ac_ts mixed ?_
              refine t_bin rfl rfl .eql rfl rfl ?_
              refine t_assign rfl rfl rfl ?_
              refine tr_nil ?_
              refine ac_bool (fun hb11 => ?_) (fun hb11 => ?_)
              · refine ac_cond rfl (fun _ => ?_) (fun hb => by cases hb)
                have hk : k = 6 := by simpa using hb11
                subst hk
                have hn : us.length = 3 := by simpa [arity] using husl.symm
                have htyo : ty.okB = true := by simpa [typed] using htyok
                have hts := (okB_iff.1 htyo).2
                refine ac_seq ?_
                refine ac_ds mixed ?_
                refine t_move rfl rfl rfl ?_
                refine t_indexAddr sli27 rfl (by constructor) rfl (by decide) (h0 hn (by decide)) rfl rfl rfl ?_
                first | refine t_load ty30 rfl rfl rfl rfl rfl rfl ?_ | refine s_loadWc ty30 rfl rfl rfl rfl ?_ | refine t_loadN (us := [_, _]) ty30 rfl rfl rfl rfl rfl rfl ?_ | refine t_loadNc (us := [_, _]) ty30 rfl rfl rfl rfl rfl ?_
                first | refine t_fieldAddr fld34_2 rfl rfl rfl ?_ | refine t_fieldAddr_c fld34_2 rfl rfl rfl rfl rfl ?_
                first | refine t_load ty30 rfl rfl rfl rfl rfl rfl ?_ | refine s_loadWc ty30 rfl rfl rfl rfl ?_ | refine t_loadN (us := [_, _]) ty30 rfl rfl rfl rfl rfl rfl ?_ | refine t_loadNc (us := [_, _]) ty30 rfl rfl rfl rfl rfl ?_
                first | refine s_callF rfl .rfl (r1_Same_ev _ (Nat.le_trans (hszs hn (j := 0) (by decide)) (by decide)) _) rfl rfl ?_ | refine s_callF rfl (by (repeat' (first | exact VLes.rfl | exact VLes.nil | exact VLe.rfl | refine VLes.cons ?_ ?_ | exact VLe.own | exact VLe.full | exact VLe.nils | refine VLe.agg ?_ | exact VLe.fullE (dTms_one _) | exact VLe.fullE (dTms_two _ _) | exact VLe.fullE (dTms_three _ _ _) | exact VLe.fullE (dTys_one _) | exact VLe.fullE (dTys_two _ _) | exact VLe.fullE (dTys_three _ _ _)))) (r1_Same_ev _ (Nat.le_trans (hszs hn (j := 0) (by decide)) (by decide)) _) rfl rfl ?_
                refine t_not rfl rfl rfl ?_
                refine t_move rfl rfl rfl ?_
                refine tr_bool (fun h141 => ?_) (fun h141 => ?_)
                · refine t_skip ⟨_, rfl, .inl ⟨_, rfl, rfl⟩⟩ rfl ?_
                  refine t_skip ⟨_, rfl, .inl ⟨_, rfl, rfl⟩⟩ rfl ?_
                  refine t_skip ⟨_, rfl, .inl ⟨_, rfl, rfl⟩⟩ rfl ?_
                  refine t_skip ⟨_, rfl, .inl ⟨_, rfl, rfl⟩⟩ rfl ?_
                  refine t_skip ⟨_, rfl, .inl ⟨_, rfl, rfl⟩⟩ rfl ?_
                  refine t_skip ⟨_, rfl, .inl ⟨_, rfl, rfl⟩⟩ rfl ?_
                  refine t_skip ⟨_, rfl, .inl ⟨_, rfl, rfl⟩⟩ rfl ?_
                  refine t_skip ⟨_, rfl, .inl ⟨_, rfl, rfl⟩⟩ rfl ?_
                  refine t_skip ⟨_, rfl, .inl ⟨_, rfl, rfl⟩⟩ rfl ?_
                  refine t_skip ⟨_, rfl, .inl ⟨_, rfl, rfl⟩⟩ rfl ?_
                  refine t_skip ⟨_, rfl, .inl ⟨_, rfl, rfl⟩⟩ rfl ?_
                  refine t_skip ⟨_, rfl, .inl ⟨_, rfl, rfl⟩⟩ rfl ?_
                  refine t_pick_t rfl rfl rfl rfl rfl ?_
                  refine t_move rfl rfl rfl ?_
                  refine t_skip ⟨_, rfl, .inl ⟨_, rfl, rfl⟩⟩ rfl ?_
                  refine t_skip ⟨_, rfl, .inl ⟨_, rfl, rfl⟩⟩ rfl ?_
                  refine t_skip ⟨_, rfl, .inl ⟨_, rfl, rfl⟩⟩ rfl ?_
                  refine t_skip ⟨_, rfl, .inl ⟨_, rfl, rfl⟩⟩ rfl ?_
                  refine t_skip ⟨_, rfl, .inl ⟨_, rfl, rfl⟩⟩ rfl ?_
                  refine t_skip ⟨_, rfl, .inl ⟨_, rfl, rfl⟩⟩ rfl ?_
                  refine t_pick_t rfl rfl rfl rfl rfl ?_
                  refine tr_nil ⟨by kernel_rfl, ?_⟩
                  refine ac_cond rfl (fun hb => ?_) (fun hb => by cases hb)
                  refine ac_ts mixed ?_
                  refine s_build (res := [_, _]) zer30 plc30 rfl rfl rfl rfl rfl ?_
                  first | refine s_storeW ty30 rfl rfl rfl rfl rfl rfl rfl ?_ | refine s_store (ws := [_, _]) ty30 rfl rfl rfl rfl rfl rfl rfl rfl ?_
                  refine t_assign rfl rfl rfl ?_
                  refine tr_nil ?_
                  refine ac_ret ?_
                  refine ⟨.inr rfl, _, ⟨_, _, _, _, _, rfl, rfl, rfl, .inl (retAgg ty30 rfl), ⟨_, _, rfl, rfl, rfl⟩⟩, ?_, ?_⟩
                  · have e : r = (7, .zero) := by rw [← hnode]; simp_all [node, Typ.nat, Typ.func]
                    rw [e]
                    (repeat' (first | exact VLe.rfl | exact VLes.rfl | exact VLes.nil | refine VLes.cons ?_ ?_ | refine VLe.agg ?_ | refine VLe.tup ?_ | exact VLe.own | exact VLe.full | exact VLe.nils | exact VLe.any | exact VLe.clo | exact VLe.fn | refine VLe.intE ?_ | refine VLe.boolE ?_ | refine VLe.sliceE ?_ | refine VLe.ownE ?_ | refine VLe.ownO ?_ | refine VLe.fullE ?_ | refine VLe.nilsE ?_))
                  · (intro l o h; cases h)
                · refine t_move rfl ⟨_, rfl, .inl ⟨_, rfl, rfl⟩⟩ rfl ?_
                  refine t_indexAddr sli27 rfl (by constructor) rfl (by decide) (h0 hn (by decide)) rfl ⟨_, rfl, .inl ⟨_, rfl, rfl⟩⟩ rfl ?_
                  first | refine t_load ty30 rfl rfl rfl rfl ⟨_, rfl, .inl ⟨_, rfl, rfl⟩⟩ rfl ?_ | refine s_loadWc ty30 rfl rfl ⟨_, rfl, .inl ⟨_, rfl, rfl⟩⟩ rfl ?_ | refine t_loadN (us := [_, _]) ty30 rfl rfl rfl rfl ⟨_, rfl, .inl ⟨_, rfl, rfl⟩⟩ rfl ?_ | refine t_loadNc (us := [_, _]) ty30 rfl rfl rfl ⟨_, rfl, .inl ⟨_, rfl, rfl⟩⟩ rfl ?_
                  first | refine t_load ty30 rfl rfl rfl rfl ⟨_, rfl, .inl ⟨_, rfl, rfl⟩⟩ rfl ?_ | refine s_loadWc ty30 rfl rfl ⟨_, rfl, .inl ⟨_, rfl, rfl⟩⟩ rfl ?_ | refine t_loadN (us := [_, _]) ty30 rfl rfl rfl rfl ⟨_, rfl, .inl ⟨_, rfl, rfl⟩⟩ rfl ?_ | refine t_loadNc (us := [_, _]) ty30 rfl rfl rfl ⟨_, rfl, .inl ⟨_, rfl, rfl⟩⟩ rfl ?_
                  first | refine t_fieldAddr fld34_2 rfl ⟨_, rfl, .inl ⟨_, rfl, rfl⟩⟩ rfl ?_ | refine t_fieldAddr_c fld34_2 rfl rfl ⟨_, rfl, .inl ⟨_, rfl, rfl⟩⟩ rfl rfl ?_
                  first | refine t_load ty30 rfl rfl rfl rfl ⟨_, rfl, .inl ⟨_, rfl, rfl⟩⟩ rfl ?_ | refine s_loadWc ty30 rfl rfl ⟨_, rfl, .inl ⟨_, rfl, rfl⟩⟩ rfl ?_ | refine t_loadN (us := [_, _]) ty30 rfl rfl rfl rfl ⟨_, rfl, .inl ⟨_, rfl, rfl⟩⟩ rfl ?_ | refine t_loadNc (us := [_, _]) ty30 rfl rfl rfl ⟨_, rfl, .inl ⟨_, rfl, rfl⟩⟩ rfl ?_
                  first | refine t_fieldAddr fld34_2 rfl ⟨_, rfl, .inl ⟨_, rfl, rfl⟩⟩ rfl ?_ | refine t_fieldAddr_c fld34_2 rfl rfl ⟨_, rfl, .inl ⟨_, rfl, rfl⟩⟩ rfl rfl ?_
                  first | refine t_load ty30 rfl rfl rfl rfl ⟨_, rfl, .inl ⟨_, rfl, rfl⟩⟩ rfl ?_ | refine s_loadWc ty30 rfl rfl ⟨_, rfl, .inl ⟨_, rfl, rfl⟩⟩ rfl ?_ | refine t_loadN (us := [_, _]) ty30 rfl rfl rfl rfl ⟨_, rfl, .inl ⟨_, rfl, rfl⟩⟩ rfl ?_ | refine t_loadNc (us := [_, _]) ty30 rfl rfl rfl ⟨_, rfl, .inl ⟨_, rfl, rfl⟩⟩ rfl ?_
                  first | refine s_callF rfl .rfl (r1_Fun_ev _ _ (by omega) (by omega)) ⟨_, rfl, .inl ⟨_, rfl, rfl⟩⟩ rfl ?_ | refine s_callF rfl (by (repeat' (first | exact VLes.rfl | exact VLes.nil | exact VLe.rfl | refine VLes.cons ?_ ?_ | exact VLe.own | exact VLe.full | exact VLe.nils | refine VLe.agg ?_ | exact VLe.fullE (dTms_one _) | exact VLe.fullE (dTms_two _ _) | exact VLe.fullE (dTms_three _ _ _) | exact VLe.fullE (dTys_one _) | exact VLe.fullE (dTys_two _ _) | exact VLe.fullE (dTys_three _ _ _)))) (r1_Fun_ev _ _ (by omega) (by omega)) ⟨_, rfl, .inl ⟨_, rfl, rfl⟩⟩ rfl ?_
                  first | refine s_callF rfl .rfl (r1_Fun_ev _ _ (by decide) (by simp [Typ.sz, szTys]; omega)) ⟨_, rfl, .inl ⟨_, rfl, rfl⟩⟩ rfl ?_ | refine s_callF rfl (by (repeat' (first | exact VLes.rfl | exact VLes.nil | exact VLe.rfl | refine VLes.cons ?_ ?_ | exact VLe.own | exact VLe.full | exact VLe.nils | refine VLe.agg ?_ | exact VLe.fullE (dTms_one _) | exact VLe.fullE (dTms_two _ _) | exact VLe.fullE (dTms_three _ _ _) | exact VLe.fullE (dTys_one _) | exact VLe.fullE (dTys_two _ _) | exact VLe.fullE (dTys_three _ _ _)))) (r1_Fun_ev _ _ (by decide) (by simp [Typ.sz, szTys]; omega)) ⟨_, rfl, .inl ⟨_, rfl, rfl⟩⟩ rfl ?_
                  first | refine s_callF rfl .rfl (r1_Same_ev _ (Nat.le_trans (hszs hn (j := 1) (by decide)) (by decide)) _) ⟨_, rfl, .inl ⟨_, rfl, rfl⟩⟩ rfl ?_ | refine s_callF rfl (by (repeat' (first | exact VLes.rfl | exact VLes.nil | exact VLe.rfl | refine VLes.cons ?_ ?_ | exact VLe.own | exact VLe.full | exact VLe.nils | refine VLe.agg ?_ | exact VLe.fullE (dTms_one _) | exact VLe.fullE (dTms_two _ _) | exact VLe.fullE (dTms_three _ _ _) | exact VLe.fullE (dTys_one _) | exact VLe.fullE (dTys_two _ _) | exact VLe.fullE (dTys_three _ _ _)))) (r1_Same_ev _ (Nat.le_trans (hszs hn (j := 1) (by decide)) (by decide)) _) ⟨_, rfl, .inl ⟨_, rfl, rfl⟩⟩ rfl ?_
                  refine t_not rfl ⟨_, rfl, .inl ⟨_, rfl, rfl⟩⟩ rfl ?_
                  refine t_pick_f rfl rfl rfl rfl rfl ?_
                  refine t_move rfl rfl rfl ?_
                  refine tr_bool (fun h155 => ?_) (fun h155 => ?_)
                  · refine t_skip ⟨_, rfl, .inl ⟨_, rfl, rfl⟩⟩ rfl ?_
                    refine t_skip ⟨_, rfl, .inl ⟨_, rfl, rfl⟩⟩ rfl ?_
                    refine t_skip ⟨_, rfl, .inl ⟨_, rfl, rfl⟩⟩ rfl ?_
                    refine t_skip ⟨_, rfl, .inl ⟨_, rfl, rfl⟩⟩ rfl ?_
                    refine t_skip ⟨_, rfl, .inl ⟨_, rfl, rfl⟩⟩ rfl ?_
                    refine t_skip ⟨_, rfl, .inl ⟨_, rfl, rfl⟩⟩ rfl ?_
                    refine t_pick_t rfl rfl rfl rfl rfl ?_
                    refine tr_nil ⟨by kernel_rfl, ?_⟩
                    refine ac_cond rfl (fun hb => ?_) (fun hb => by cases hb)
                    refine ac_ts mixed ?_
                    refine s_build (res := [_, _]) zer30 plc30 rfl rfl rfl rfl rfl ?_
                    first | refine s_storeW ty30 rfl rfl rfl rfl rfl rfl rfl ?_ | refine s_store (ws := [_, _]) ty30 rfl rfl rfl rfl rfl rfl rfl rfl ?_
                    refine t_assign rfl rfl rfl ?_
                    refine tr_nil ?_
                    refine ac_ret ?_
                    refine ⟨.inr rfl, _, ⟨_, _, _, _, _, rfl, rfl, rfl, .inl (retAgg ty30 rfl), ⟨_, _, rfl, rfl, rfl⟩⟩, ?_, ?_⟩
                    · have e : r = (7, .zero) := by rw [← hnode]; simp_all [node, Typ.nat, Typ.func]
                      rw [e]
                      (repeat' (first | exact VLe.rfl | exact VLes.rfl | exact VLes.nil | refine VLes.cons ?_ ?_ | refine VLe.agg ?_ | refine VLe.tup ?_ | exact VLe.own | exact VLe.full | exact VLe.nils | exact VLe.any | exact VLe.clo | exact VLe.fn | refine VLe.intE ?_ | refine VLe.boolE ?_ | refine VLe.sliceE ?_ | refine VLe.ownE ?_ | refine VLe.ownO ?_ | refine VLe.fullE ?_ | refine VLe.nilsE ?_))
                    · (intro l o h; cases h)
                  · refine t_move rfl ⟨_, rfl, .inl ⟨_, rfl, rfl⟩⟩ rfl ?_
                    refine t_indexAddr sli27 rfl (by constructor) rfl (by decide) (h0 hn (by decide)) rfl ⟨_, rfl, .inl ⟨_, rfl, rfl⟩⟩ rfl ?_
                    first | refine t_load ty30 rfl rfl rfl rfl ⟨_, rfl, .inl ⟨_, rfl, rfl⟩⟩ rfl ?_ | refine s_loadWc ty30 rfl rfl ⟨_, rfl, .inl ⟨_, rfl, rfl⟩⟩ rfl ?_ | refine t_loadN (us := [_, _]) ty30 rfl rfl rfl rfl ⟨_, rfl, .inl ⟨_, rfl, rfl⟩⟩ rfl ?_ | refine t_loadNc (us := [_, _]) ty30 rfl rfl rfl ⟨_, rfl, .inl ⟨_, rfl, rfl⟩⟩ rfl ?_
                    first | refine t_load ty30 rfl rfl rfl rfl ⟨_, rfl, .inl ⟨_, rfl, rfl⟩⟩ rfl ?_ | refine s_loadWc ty30 rfl rfl ⟨_, rfl, .inl ⟨_, rfl, rfl⟩⟩ rfl ?_ | refine t_loadN (us := [_, _]) ty30 rfl rfl rfl rfl ⟨_, rfl, .inl ⟨_, rfl, rfl⟩⟩ rfl ?_ | refine t_loadNc (us := [_, _]) ty30 rfl rfl rfl ⟨_, rfl, .inl ⟨_, rfl, rfl⟩⟩ rfl ?_
                    first | refine s_callF rfl .rfl (r1_Same_ev _ (Nat.le_trans (hszs hn (j := 2) (by decide)) (by decide)) _) ⟨_, rfl, .inl ⟨_, rfl, rfl⟩⟩ rfl ?_ | refine s_callF rfl (by (repeat' (first | exact VLes.rfl | exact VLes.nil | exact VLe.rfl | refine VLes.cons ?_ ?_ | exact VLe.own | exact VLe.full | exact VLe.nils | refine VLe.agg ?_ | exact VLe.fullE (dTms_one _) | exact VLe.fullE (dTms_two _ _) | exact VLe.fullE (dTms_three _ _ _) | exact VLe.fullE (dTys_one _) | exact VLe.fullE (dTys_two _ _) | exact VLe.fullE (dTys_three _ _ _)))) (r1_Same_ev _ (Nat.le_trans (hszs hn (j := 2) (by decide)) (by decide)) _) ⟨_, rfl, .inl ⟨_, rfl, rfl⟩⟩ rfl ?_
                    refine t_not rfl ⟨_, rfl, .inl ⟨_, rfl, rfl⟩⟩ rfl ?_
                    refine t_pick_f rfl rfl rfl rfl rfl ?_
                    refine tr_nil ⟨by kernel_rfl, ?_⟩
                    refine ac_bool (fun hb12 => ?_) (fun hb12 => ?_)
                    · refine ac_cond rfl (fun _ => ?_) (fun hb => by cases hb)
                      refine ac_ts mixed ?_
                      refine s_build (res := [_, _]) zer30 plc30 rfl rfl rfl rfl rfl ?_
                      first | refine s_storeW ty30 rfl rfl rfl rfl rfl rfl rfl ?_ | refine s_store (ws := [_, _]) ty30 rfl rfl rfl rfl rfl rfl rfl rfl ?_
                      refine t_assign rfl rfl rfl ?_
                      refine tr_nil ?_
                      refine ac_ret ?_
                      refine ⟨.inr rfl, _, ⟨_, _, _, _, _, rfl, rfl, rfl, .inl (retAgg ty30 rfl), ⟨_, _, rfl, rfl, rfl⟩⟩, ?_, ?_⟩
                      · have e : r = (7, .zero) := by rw [← hnode]; simp_all [node, Typ.nat, Typ.func]
                        rw [e]
                        (repeat' (first | exact VLe.rfl | exact VLes.rfl | exact VLes.nil | refine VLes.cons ?_ ?_ | refine VLe.agg ?_ | refine VLe.tup ?_ | exact VLe.own | exact VLe.full | exact VLe.nils | exact VLe.any | exact VLe.clo | exact VLe.fn | refine VLe.intE ?_ | refine VLe.boolE ?_ | refine VLe.sliceE ?_ | refine VLe.ownE ?_ | refine VLe.ownO ?_ | refine VLe.fullE ?_ | refine VLe.nilsE ?_))
                      · (intro l o h; cases h)
                    · refine ac_cond rfl (fun hb => by cases hb) (fun _ => ?_)
                      refine ac_skip ?_
                      change AC _ _ _ _ _
                      refine ac_ts mixed ?_
                      first | refine t_fieldAddr fld34_2 rfl rfl rfl ?_ | refine t_fieldAddr_c fld34_2 rfl rfl rfl rfl rfl ?_
                      first | refine t_load ty30 rfl rfl rfl rfl rfl rfl ?_ | refine s_loadWc ty30 rfl rfl rfl rfl ?_ | refine t_loadN (us := [_, _]) ty30 rfl rfl rfl rfl rfl rfl ?_ | refine t_loadNc (us := [_, _]) ty30 rfl rfl rfl rfl rfl ?_
                      first | refine s_callF rfl .rfl (r1_Copy_ev _ hty) rfl rfl ?_ | refine s_callF rfl (by (repeat' (first | exact VLes.rfl | exact VLes.nil | exact VLe.rfl | refine VLes.cons ?_ ?_ | exact VLe.own | exact VLe.full | exact VLe.nils | refine VLe.agg ?_ | exact VLe.fullE (dTms_one _) | exact VLe.fullE (dTms_two _ _) | exact VLe.fullE (dTms_three _ _ _) | exact VLe.fullE (dTys_one _) | exact VLe.fullE (dTys_two _ _) | exact VLe.fullE (dTys_three _ _ _)))) (r1_Copy_ev _ hty) rfl rfl ?_
                      first | refine s_storeW ty30 rfl rfl rfl rfl rfl rfl rfl ?_ | refine s_store (ws := [_, _]) ty30 rfl rfl rfl rfl rfl rfl rfl rfl ?_
                      refine t_assign rfl rfl rfl ?_
                      refine tr_nil ?_
                      refine ac_ret ?_
                      refine ⟨.inr rfl, _, ⟨_, _, _, _, _, rfl, rfl, rfl, .inl (retAgg ty30 rfl), ⟨_, _, rfl, rfl, rfl⟩⟩, ?_, ?_⟩
                      · have e : r = (0, ty) := by rw [← hnode]; simp_all [node, Typ.nat, Typ.func]
                        rw [e]
                        (repeat' (first | exact VLe.rfl | exact VLes.rfl | exact VLes.nil | refine VLes.cons ?_ ?_ | refine VLe.agg ?_ | refine VLe.tup ?_ | exact VLe.own | exact VLe.full | exact VLe.nils | exact VLe.any | exact VLe.clo | exact VLe.fn | refine VLe.intE ?_ | refine VLe.boolE ?_ | refine VLe.sliceE ?_ | refine VLe.ownE ?_ | refine VLe.ownO ?_ | refine VLe.fullE ?_ | refine VLe.nilsE ?_))
                      · (intro l o h; cases h)
              · refine ac_cond rfl (fun hb => by cases hb) (fun _ => ?_)
                refine ac_ts mixed ?_
                refine t_bin rfl rfl .eql rfl rfl ?_
                refine t_assign rfl rfl rfl ?_
                refine tr_nil ?_
                refine ac_bool (fun hb13 => ?_) (fun hb13 => ?_)
                · refine ac_cond rfl (fun _ => ?_) (fun hb => by cases hb)
                  refine ac_ts mixed ?_
                  first | refine t_load ty30 rfl rfl rfl rfl rfl rfl ?_ | refine s_loadWc ty30 rfl rfl rfl rfl ?_ | refine t_loadN (us := [_, _]) ty30 rfl rfl rfl rfl rfl rfl ?_ | refine t_loadNc (us := [_, _]) ty30 rfl rfl rfl rfl rfl ?_
                  first | refine s_storeW ty30 rfl rfl rfl rfl rfl rfl rfl ?_ | refine s_store (ws := [_, _]) ty30 rfl rfl rfl rfl rfl rfl rfl rfl ?_
                  refine t_assign rfl rfl rfl ?_
                  refine tr_nil ?_
                  refine ac_ret ?_
                  refine ⟨.inr rfl, _, ⟨_, _, _, _, _, rfl, rfl, rfl, .inl (retAgg ty30 rfl), ⟨_, _, rfl, rfl, rfl⟩⟩, ?_, ?_⟩
                  · have e : r = (0, .list) := by rw [← hnode]; simp_all [node]
                    rw [e]
                    (repeat' (first | exact VLe.rfl | exact VLes.rfl | exact VLes.nil | refine VLes.cons ?_ ?_ | refine VLe.agg ?_ | refine VLe.tup ?_ | exact VLe.own | exact VLe.full | exact VLe.nils | exact VLe.any | exact VLe.clo | exact VLe.fn | refine VLe.intE ?_ | refine VLe.boolE ?_ | refine VLe.sliceE ?_ | refine VLe.ownE ?_ | refine VLe.ownO ?_ | refine VLe.fullE ?_ | refine VLe.nilsE ?_))
                  · (intro l o h; cases h)
                · refine ac_cond rfl (fun hb => by cases hb) (fun _ => ?_)
                  refine ac_ts mixed ?_
                  refine t_bin rfl rfl .eql rfl rfl ?_
                  refine t_assign rfl rfl rfl ?_
                  refine tr_nil ?_
                  refine ac_bool (fun hb14 => ?_) (fun hb14 => ?_)
                  · refine ac_cond rfl (fun _ => ?_) (fun hb => by cases hb)
                    have hk : k = 8 := by simpa using hb14
                    subst hk
                    have hn : us.length = 2 := by simpa [arity] using husl.symm
                    refine ac_seq ?_
                    refine ac_ds mixed ?_
                    refine t_move rfl rfl rfl ?_
                    refine t_indexAddr sli27 rfl (by constructor) rfl (by decide) (h0 hn (by decide)) rfl rfl rfl ?_
                    first | refine t_load ty30 rfl rfl rfl rfl rfl rfl ?_ | refine s_loadWc ty30 rfl rfl rfl rfl ?_ | refine t_loadN (us := [_, _]) ty30 rfl rfl rfl rfl rfl rfl ?_ | refine t_loadNc (us := [_, _]) ty30 rfl rfl rfl rfl rfl ?_
                    first | refine t_load ty30 rfl rfl rfl rfl rfl rfl ?_ | refine s_loadWc ty30 rfl rfl rfl rfl ?_ | refine t_loadN (us := [_, _]) ty30 rfl rfl rfl rfl rfl rfl ?_ | refine t_loadNc (us := [_, _]) ty30 rfl rfl rfl rfl rfl ?_
                    first | refine s_callF rfl .rfl (r1_Same_ev _ (Nat.le_trans (hszs hn (j := 0) (by decide)) (by decide)) _) rfl rfl ?_ | refine s_callF rfl (by (repeat' (first | exact VLes.rfl | exact VLes.nil | exact VLe.rfl | refine VLes.cons ?_ ?_ | exact VLe.own | exact VLe.full | exact VLe.nils | refine VLe.agg ?_ | exact VLe.fullE (dTms_one _) | exact VLe.fullE (dTms_two _ _) | exact VLe.fullE (dTms_three _ _ _) | exact VLe.fullE (dTys_one _) | exact VLe.fullE (dTys_two _ _) | exact VLe.fullE (dTys_three _ _ _)))) (r1_Same_ev _ (Nat.le_trans (hszs hn (j := 0) (by decide)) (by decide)) _) rfl rfl ?_
                    refine t_not rfl rfl rfl ?_
                    refine t_move rfl rfl rfl ?_
                    refine tr_bool (fun h178 => ?_) (fun h178 => ?_)
                    · refine t_skip ⟨_, rfl, .inl ⟨_, rfl, rfl⟩⟩ rfl ?_
                      refine t_skip ⟨_, rfl, .inl ⟨_, rfl, rfl⟩⟩ rfl ?_
                      refine t_skip ⟨_, rfl, .inl ⟨_, rfl, rfl⟩⟩ rfl ?_
                      refine t_skip ⟨_, rfl, .inl ⟨_, rfl, rfl⟩⟩ rfl ?_
                      refine t_skip ⟨_, rfl, .inl ⟨_, rfl, rfl⟩⟩ rfl ?_
                      refine t_skip ⟨_, rfl, .inl ⟨_, rfl, rfl⟩⟩ rfl ?_
                      refine t_pick_t rfl rfl rfl rfl rfl ?_
                      refine tr_nil ⟨by kernel_rfl, ?_⟩
                      refine ac_cond rfl (fun hb => ?_) (fun hb => by cases hb)
                      refine ac_ts mixed ?_
                      refine s_build (res := [_, _]) zer30 plc30 rfl rfl rfl rfl rfl ?_
                      first | refine s_storeW ty30 rfl rfl rfl rfl rfl rfl rfl ?_ | refine s_store (ws := [_, _]) ty30 rfl rfl rfl rfl rfl rfl rfl rfl ?_
                      refine t_assign rfl rfl rfl ?_
                      refine tr_nil ?_
                      refine ac_ret ?_
                      refine ⟨.inr rfl, _, ⟨_, _, _, _, _, rfl, rfl, rfl, .inl (retAgg ty30 rfl), ⟨_, _, rfl, rfl, rfl⟩⟩, ?_, ?_⟩
                      · have e : r = (7, .zero) := by rw [← hnode]; simp_all [node, Typ.nat, Typ.list]
                        rw [e]
                        (repeat' (first | exact VLe.rfl | exact VLes.rfl | exact VLes.nil | refine VLes.cons ?_ ?_ | refine VLe.agg ?_ | refine VLe.tup ?_ | exact VLe.own | exact VLe.full | exact VLe.nils | exact VLe.any | exact VLe.clo | exact VLe.fn | refine VLe.intE ?_ | refine VLe.boolE ?_ | refine VLe.sliceE ?_ | refine VLe.ownE ?_ | refine VLe.ownO ?_ | refine VLe.fullE ?_ | refine VLe.nilsE ?_))
                      · (intro l o h; cases h)
                    · refine t_move rfl ⟨_, rfl, .inl ⟨_, rfl, rfl⟩⟩ rfl ?_
                      refine t_indexAddr sli27 rfl (by constructor) rfl (by decide) (h0 hn (by decide)) rfl ⟨_, rfl, .inl ⟨_, rfl, rfl⟩⟩ rfl ?_
                      first | refine t_load ty30 rfl rfl rfl rfl ⟨_, rfl, .inl ⟨_, rfl, rfl⟩⟩ rfl ?_ | refine s_loadWc ty30 rfl rfl ⟨_, rfl, .inl ⟨_, rfl, rfl⟩⟩ rfl ?_ | refine t_loadN (us := [_, _]) ty30 rfl rfl rfl rfl ⟨_, rfl, .inl ⟨_, rfl, rfl⟩⟩ rfl ?_ | refine t_loadNc (us := [_, _]) ty30 rfl rfl rfl ⟨_, rfl, .inl ⟨_, rfl, rfl⟩⟩ rfl ?_
                      first | refine t_load ty30 rfl rfl rfl rfl ⟨_, rfl, .inl ⟨_, rfl, rfl⟩⟩ rfl ?_ | refine s_loadWc ty30 rfl rfl ⟨_, rfl, .inl ⟨_, rfl, rfl⟩⟩ rfl ?_ | refine t_loadN (us := [_, _]) ty30 rfl rfl rfl rfl ⟨_, rfl, .inl ⟨_, rfl, rfl⟩⟩ rfl ?_ | refine t_loadNc (us := [_, _]) ty30 rfl rfl rfl ⟨_, rfl, .inl ⟨_, rfl, rfl⟩⟩ rfl ?_
                      first | refine s_callF rfl .rfl (r1_Same_ev _ (Nat.le_trans (hszs hn (j := 1) (by decide)) (by decide)) _) ⟨_, rfl, .inl ⟨_, rfl, rfl⟩⟩ rfl ?_ | refine s_callF rfl (by (repeat' (first | exact VLes.rfl | exact VLes.nil | exact VLe.rfl | refine VLes.cons ?_ ?_ | exact VLe.own | exact VLe.full | exact VLe.nils | refine VLe.agg ?_ | exact VLe.fullE (dTms_one _) | exact VLe.fullE (dTms_two _ _) | exact VLe.fullE (dTms_three _ _ _) | exact VLe.fullE (dTys_one _) | exact VLe.fullE (dTys_two _ _) | exact VLe.fullE (dTys_three _ _ _)))) (r1_Same_ev _ (Nat.le_trans (hszs hn (j := 1) (by decide)) (by decide)) _) ⟨_, rfl, .inl ⟨_, rfl, rfl⟩⟩ rfl ?_
                      refine t_not rfl ⟨_, rfl, .inl ⟨_, rfl, rfl⟩⟩ rfl ?_
                      refine t_pick_f rfl rfl rfl rfl rfl ?_
                      refine tr_nil ⟨by kernel_rfl, ?_⟩
                      refine ac_bool (fun hb15 => ?_) (fun hb15 => ?_)
                      · refine ac_cond rfl (fun _ => ?_) (fun hb => by cases hb)
                        refine ac_ts mixed ?_
                        refine s_build (res := [_, _]) zer30 plc30 rfl rfl rfl rfl rfl ?_
                        first | refine s_storeW ty30 rfl rfl rfl rfl rfl rfl rfl ?_ | refine s_store (ws := [_, _]) ty30 rfl rfl rfl rfl rfl rfl rfl rfl ?_
                        refine t_assign rfl rfl rfl ?_
                        refine tr_nil ?_
                        refine ac_ret ?_
                        refine ⟨.inr rfl, _, ⟨_, _, _, _, _, rfl, rfl, rfl, .inl (retAgg ty30 rfl), ⟨_, _, rfl, rfl, rfl⟩⟩, ?_, ?_⟩
                        · have e : r = (7, .zero) := by rw [← hnode]; simp_all [node, Typ.nat, Typ.list]
                          rw [e]
                          (repeat' (first | exact VLe.rfl | exact VLes.rfl | exact VLes.nil | refine VLes.cons ?_ ?_ | refine VLe.agg ?_ | refine VLe.tup ?_ | exact VLe.own | exact VLe.full | exact VLe.nils | exact VLe.any | exact VLe.clo | exact VLe.fn | refine VLe.intE ?_ | refine VLe.boolE ?_ | refine VLe.sliceE ?_ | refine VLe.ownE ?_ | refine VLe.ownO ?_ | refine VLe.fullE ?_ | refine VLe.nilsE ?_))
                        · (intro l o h; cases h)
                      · refine ac_cond rfl (fun hb => by cases hb) (fun _ => ?_)
                        refine ac_skip ?_
                        change AC _ _ _ _ _
                        refine ac_ts mixed ?_
                        first | refine t_load ty30 rfl rfl rfl rfl rfl rfl ?_ | refine s_loadWc ty30 rfl rfl rfl rfl ?_ | refine t_loadN (us := [_, _]) ty30 rfl rfl rfl rfl rfl rfl ?_ | refine t_loadNc (us := [_, _]) ty30 rfl rfl rfl rfl rfl ?_
                        first | refine s_storeW ty30 rfl rfl rfl rfl rfl rfl rfl ?_ | refine s_store (ws := [_, _]) ty30 rfl rfl rfl rfl rfl rfl rfl rfl ?_
                        refine t_assign rfl rfl rfl ?_
                        refine tr_nil ?_
                        refine ac_ret ?_
                        refine ⟨.inr rfl, _, ⟨_, _, _, _, _, rfl, rfl, rfl, .inl (retAgg ty30 rfl), ⟨_, _, rfl, rfl, rfl⟩⟩, ?_, ?_⟩
                        · have e : r = (0, .list) := by rw [← hnode]; simp_all [node, Typ.nat, Typ.list]
                          rw [e]
                          (repeat' (first | exact VLe.rfl | exact VLes.rfl | exact VLes.nil | refine VLes.cons ?_ ?_ | refine VLe.agg ?_ | refine VLe.tup ?_ | exact VLe.own | exact VLe.full | exact VLe.nils | exact VLe.any | exact VLe.clo | exact VLe.fn | refine VLe.intE ?_ | refine VLe.boolE ?_ | refine VLe.sliceE ?_ | refine VLe.ownE ?_ | refine VLe.ownO ?_ | refine VLe.fullE ?_ | refine VLe.nilsE ?_))
                        · (intro l o h; cases h)
                  · refine ac_cond rfl (fun hb => by cases hb) (fun _ => ?_)
                    refine ac_ts mixed ?_
                    refine t_bin rfl rfl .eql rfl rfl ?_
                    refine t_assign rfl rfl rfl ?_
                    refine tr_nil ?_
                    refine ac_bool (fun hb16 => ?_) (fun hb16 => ?_)
                    · refine ac_cond rfl (fun _ => ?_) (fun hb => by cases hb)
                      have hk : k = 9 := by simpa using hb16
                      subst hk
                      have hn : us.length = 3 := by simpa [arity] using husl.symm
                      have htyo : ty.okB = true := by simpa [typed] using htyok
                      have hts := (okB_iff.1 htyo).2
                      refine ac_seq ?_
                      refine ac_ds mixed ?_
                      refine t_move rfl rfl rfl ?_
                      refine t_indexAddr sli27 rfl (by constructor) rfl (by decide) (h0 hn (by decide)) rfl rfl rfl ?_
                      first | refine t_load ty30 rfl rfl rfl rfl rfl rfl ?_ | refine s_loadWc ty30 rfl rfl rfl rfl ?_ | refine t_loadN (us := [_, _]) ty30 rfl rfl rfl rfl rfl rfl ?_ | refine t_loadNc (us := [_, _]) ty30 rfl rfl rfl rfl rfl ?_
                      first | refine t_fieldAddr fld34_2 rfl rfl rfl ?_ | refine t_fieldAddr_c fld34_2 rfl rfl rfl rfl rfl ?_
                      first | refine t_load ty30 rfl rfl rfl rfl rfl rfl ?_ | refine s_loadWc ty30 rfl rfl rfl rfl ?_ | refine t_loadN (us := [_, _]) ty30 rfl rfl rfl rfl rfl rfl ?_ | refine t_loadNc (us := [_, _]) ty30 rfl rfl rfl rfl rfl ?_
                      first | refine s_callF rfl .rfl (r1_Same_ev _ (Nat.le_trans (hszs hn (j := 0) (by decide)) (by decide)) _) rfl rfl ?_ | refine s_callF rfl (by (repeat' (first | exact VLes.rfl | exact VLes.nil | exact VLe.rfl | refine VLes.cons ?_ ?_ | exact VLe.own | exact VLe.full | exact VLe.nils | refine VLe.agg ?_ | exact VLe.fullE (dTms_one _) | exact VLe.fullE (dTms_two _ _) | exact VLe.fullE (dTms_three _ _ _) | exact VLe.fullE (dTys_one _) | exact VLe.fullE (dTys_two _ _) | exact VLe.fullE (dTys_three _ _ _)))) (r1_Same_ev _ (Nat.le_trans (hszs hn (j := 0) (by decide)) (by decide)) _) rfl rfl ?_
                      refine t_not rfl rfl rfl ?_
                      refine t_move rfl rfl rfl ?_
                      refine tr_bool (fun h197 => ?_) (fun h197 => ?_)
                      · refine t_skip ⟨_, rfl, .inl ⟨_, rfl, rfl⟩⟩ rfl ?_
                        refine t_skip ⟨_, rfl, .inl ⟨_, rfl, rfl⟩⟩ rfl ?_
                        refine t_skip ⟨_, rfl, .inl ⟨_, rfl, rfl⟩⟩ rfl ?_
                        refine t_skip ⟨_, rfl, .inl ⟨_, rfl, rfl⟩⟩ rfl ?_
                        refine t_skip ⟨_, rfl, .inl ⟨_, rfl, rfl⟩⟩ rfl ?_
                        refine t_skip ⟨_, rfl, .inl ⟨_, rfl, rfl⟩⟩ rfl ?_
                        refine t_skip ⟨_, rfl, .inl ⟨_, rfl, rfl⟩⟩ rfl ?_
                        refine t_skip ⟨_, rfl, .inl ⟨_, rfl, rfl⟩⟩ rfl ?_
                        refine t_skip ⟨_, rfl, .inl ⟨_, rfl, rfl⟩⟩ rfl ?_
                        refine t_skip ⟨_, rfl, .inl ⟨_, rfl, rfl⟩⟩ rfl ?_
                        refine t_skip ⟨_, rfl, .inl ⟨_, rfl, rfl⟩⟩ rfl ?_
                        refine t_skip ⟨_, rfl, .inl ⟨_, rfl, rfl⟩⟩ rfl ?_
                        refine t_skip ⟨_, rfl, .inl ⟨_, rfl, rfl⟩⟩ rfl ?_
                        refine t_skip ⟨_, rfl, .inl ⟨_, rfl, rfl⟩⟩ rfl ?_
                        refine t_pick_t rfl rfl rfl rfl rfl ?_
                        refine t_move rfl rfl rfl ?_
                        refine t_skip ⟨_, rfl, .inl ⟨_, rfl, rfl⟩⟩ rfl ?_
                        refine t_skip ⟨_, rfl, .inl ⟨_, rfl, rfl⟩⟩ rfl ?_
                        refine t_skip ⟨_, rfl, .inl ⟨_, rfl, rfl⟩⟩ rfl ?_
                        refine t_skip ⟨_, rfl, .inl ⟨_, rfl, rfl⟩⟩ rfl ?_
                        refine t_skip ⟨_, rfl, .inl ⟨_, rfl, rfl⟩⟩ rfl ?_
                        refine t_skip ⟨_, rfl, .inl ⟨_, rfl, rfl⟩⟩ rfl ?_
                        refine t_pick_t rfl rfl rfl rfl rfl ?_
                        refine tr_nil ⟨by kernel_rfl, ?_⟩
                        refine ac_cond rfl (fun hb => ?_) (fun hb => by cases hb)
                        refine ac_ts mixed ?_
                        refine s_build (res := [_, _]) zer30 plc30 rfl rfl rfl rfl rfl ?_
                        first | refine s_storeW ty30 rfl rfl rfl rfl rfl rfl rfl ?_ | refine s_store (ws := [_, _]) ty30 rfl rfl rfl rfl rfl rfl rfl rfl ?_
                        refine t_assign rfl rfl rfl ?_
                        refine tr_nil ?_
                        refine ac_ret ?_
                        refine ⟨.inr rfl, _, ⟨_, _, _, _, _, rfl, rfl, rfl, .inl (retAgg ty30 rfl), ⟨_, _, rfl, rfl, rfl⟩⟩, ?_, ?_⟩
                        · have e : r = (7, .zero) := by rw [← hnode]; simp_all [node, Typ.nat, Typ.list, Typ.func]
                          rw [e]
                          (repeat' (first | exact VLe.rfl | exact VLes.rfl | exact VLes.nil | refine VLes.cons ?_ ?_ | refine VLe.agg ?_ | refine VLe.tup ?_ | exact VLe.own | exact VLe.full | exact VLe.nils | exact VLe.any | exact VLe.clo | exact VLe.fn | refine VLe.intE ?_ | refine VLe.boolE ?_ | refine VLe.sliceE ?_ | refine VLe.ownE ?_ | refine VLe.ownO ?_ | refine VLe.fullE ?_ | refine VLe.nilsE ?_))
                        · (intro l o h; cases h)
                      · refine t_move rfl ⟨_, rfl, .inl ⟨_, rfl, rfl⟩⟩ rfl ?_
                        refine t_indexAddr sli27 rfl (by constructor) rfl (by decide) (h0 hn (by decide)) rfl ⟨_, rfl, .inl ⟨_, rfl, rfl⟩⟩ rfl ?_
                        first | refine t_load ty30 rfl rfl rfl rfl ⟨_, rfl, .inl ⟨_, rfl, rfl⟩⟩ rfl ?_ | refine s_loadWc ty30 rfl rfl ⟨_, rfl, .inl ⟨_, rfl, rfl⟩⟩ rfl ?_ | refine t_loadN (us := [_, _]) ty30 rfl rfl rfl rfl ⟨_, rfl, .inl ⟨_, rfl, rfl⟩⟩ rfl ?_ | refine t_loadNc (us := [_, _]) ty30 rfl rfl rfl ⟨_, rfl, .inl ⟨_, rfl, rfl⟩⟩ rfl ?_
                        first | refine t_load ty30 rfl rfl rfl rfl ⟨_, rfl, .inl ⟨_, rfl, rfl⟩⟩ rfl ?_ | refine s_loadWc ty30 rfl rfl ⟨_, rfl, .inl ⟨_, rfl, rfl⟩⟩ rfl ?_ | refine t_loadN (us := [_, _]) ty30 rfl rfl rfl rfl ⟨_, rfl, .inl ⟨_, rfl, rfl⟩⟩ rfl ?_ | refine t_loadNc (us := [_, _]) ty30 rfl rfl rfl ⟨_, rfl, .inl ⟨_, rfl, rfl⟩⟩ rfl ?_
                        first | refine t_load ty30 rfl rfl rfl rfl ⟨_, rfl, .inl ⟨_, rfl, rfl⟩⟩ rfl ?_ | refine s_loadWc ty30 rfl rfl ⟨_, rfl, .inl ⟨_, rfl, rfl⟩⟩ rfl ?_ | refine t_loadN (us := [_, _]) ty30 rfl rfl rfl rfl ⟨_, rfl, .inl ⟨_, rfl, rfl⟩⟩ rfl ?_ | refine t_loadNc (us := [_, _]) ty30 rfl rfl rfl ⟨_, rfl, .inl ⟨_, rfl, rfl⟩⟩ rfl ?_
                        first | refine t_fieldAddr fld34_2 rfl ⟨_, rfl, .inl ⟨_, rfl, rfl⟩⟩ rfl ?_ | refine t_fieldAddr_c fld34_2 rfl rfl ⟨_, rfl, .inl ⟨_, rfl, rfl⟩⟩ rfl rfl ?_
                        first | refine t_load ty30 rfl rfl rfl rfl ⟨_, rfl, .inl ⟨_, rfl, rfl⟩⟩ rfl ?_ | refine s_loadWc ty30 rfl rfl ⟨_, rfl, .inl ⟨_, rfl, rfl⟩⟩ rfl ?_ | refine t_loadN (us := [_, _]) ty30 rfl rfl rfl rfl ⟨_, rfl, .inl ⟨_, rfl, rfl⟩⟩ rfl ?_ | refine t_loadNc (us := [_, _]) ty30 rfl rfl rfl ⟨_, rfl, .inl ⟨_, rfl, rfl⟩⟩ rfl ?_
                        first | refine t_fieldAddr fld34_2 rfl ⟨_, rfl, .inl ⟨_, rfl, rfl⟩⟩ rfl ?_ | refine t_fieldAddr_c fld34_2 rfl rfl ⟨_, rfl, .inl ⟨_, rfl, rfl⟩⟩ rfl rfl ?_
                        first | refine t_load ty30 rfl rfl rfl rfl ⟨_, rfl, .inl ⟨_, rfl, rfl⟩⟩ rfl ?_ | refine s_loadWc ty30 rfl rfl ⟨_, rfl, .inl ⟨_, rfl, rfl⟩⟩ rfl ?_ | refine t_loadN (us := [_, _]) ty30 rfl rfl rfl rfl ⟨_, rfl, .inl ⟨_, rfl, rfl⟩⟩ rfl ?_ | refine t_loadNc (us := [_, _]) ty30 rfl rfl rfl ⟨_, rfl, .inl ⟨_, rfl, rfl⟩⟩ rfl ?_
                        first | refine s_callF rfl .rfl (r1_Fun_ev _ _ (by omega) (by omega)) ⟨_, rfl, .inl ⟨_, rfl, rfl⟩⟩ rfl ?_ | refine s_callF rfl (by (repeat' (first | exact VLes.rfl | exact VLes.nil | exact VLe.rfl | refine VLes.cons ?_ ?_ | exact VLe.own | exact VLe.full | exact VLe.nils | refine VLe.agg ?_ | exact VLe.fullE (dTms_one _) | exact VLe.fullE (dTms_two _ _) | exact VLe.fullE (dTms_three _ _ _) | exact VLe.fullE (dTys_one _) | exact VLe.fullE (dTys_two _ _) | exact VLe.fullE (dTys_three _ _ _)))) (r1_Fun_ev _ _ (by omega) (by omega)) ⟨_, rfl, .inl ⟨_, rfl, rfl⟩⟩ rfl ?_
                        first | refine s_callF rfl .rfl (r1_Fun_ev _ _ (by decide) (by simp [Typ.sz, szTys]; omega)) ⟨_, rfl, .inl ⟨_, rfl, rfl⟩⟩ rfl ?_ | refine s_callF rfl (by (repeat' (first | exact VLes.rfl | exact VLes.nil | exact VLe.rfl | refine VLes.cons ?_ ?_ | exact VLe.own | exact VLe.full | exact VLe.nils | refine VLe.agg ?_ | exact VLe.fullE (dTms_one _) | exact VLe.fullE (dTms_two _ _) | exact VLe.fullE (dTms_three _ _ _) | exact VLe.fullE (dTys_one _) | exact VLe.fullE (dTys_two _ _) | exact VLe.fullE (dTys_three _ _ _)))) (r1_Fun_ev _ _ (by decide) (by simp [Typ.sz, szTys]; omega)) ⟨_, rfl, .inl ⟨_, rfl, rfl⟩⟩ rfl ?_
                        first | refine s_callF rfl .rfl (r1_Fun_ev _ _ (by decide) (by simp [Typ.sz, szTys]; omega)) ⟨_, rfl, .inl ⟨_, rfl, rfl⟩⟩ rfl ?_ | refine s_callF rfl (by (repeat' (first | exact VLes.rfl | exact VLes.nil | exact VLe.rfl | refine VLes.cons ?_ ?_ | exact VLe.own | exact VLe.full | exact VLe.nils | refine VLe.agg ?_ | exact VLe.fullE (dTms_one _) | exact VLe.fullE (dTms_two _ _) | exact VLe.fullE (dTms_three _ _ _) | exact VLe.fullE (dTys_one _) | exact VLe.fullE (dTys_two _ _) | exact VLe.fullE (dTys_three _ _ _)))) (r1_Fun_ev _ _ (by decide) (by simp [Typ.sz, szTys]; omega)) ⟨_, rfl, .inl ⟨_, rfl, rfl⟩⟩ rfl ?_
                        first | refine s_callF rfl .rfl (r1_Same_ev _ (Nat.le_trans (hszs hn (j := 1) (by decide)) (by decide)) _) ⟨_, rfl, .inl ⟨_, rfl, rfl⟩⟩ rfl ?_ | refine s_callF rfl (by (repeat' (first | exact VLes.rfl | exact VLes.nil | exact VLe.rfl | refine VLes.cons ?_ ?_ | exact VLe.own | exact VLe.full | exact VLe.nils | refine VLe.agg ?_ | exact VLe.fullE (dTms_one _) | exact VLe.fullE (dTms_two _ _) | exact VLe.fullE (dTms_three _ _ _) | exact VLe.fullE (dTys_one _) | exact VLe.fullE (dTys_two _ _) | exact VLe.fullE (dTys_three _ _ _)))) (r1_Same_ev _ (Nat.le_trans (hszs hn (j := 1) (by decide)) (by decide)) _) ⟨_, rfl, .inl ⟨_, rfl, rfl⟩⟩ rfl ?_
                        refine t_not rfl ⟨_, rfl, .inl ⟨_, rfl, rfl⟩⟩ rfl ?_
                        refine t_pick_f rfl rfl rfl rfl rfl ?_
                        refine t_move rfl rfl rfl ?_
                        refine tr_bool (fun h213 => ?_) (fun h213 => ?_)
                        · refine t_skip ⟨_, rfl, .inl ⟨_, rfl, rfl⟩⟩ rfl ?_
                          refine t_skip ⟨_, rfl, .inl ⟨_, rfl, rfl⟩⟩ rfl ?_
                          refine t_skip ⟨_, rfl, .inl ⟨_, rfl, rfl⟩⟩ rfl ?_
                          refine t_skip ⟨_, rfl, .inl ⟨_, rfl, rfl⟩⟩ rfl ?_
                          refine t_skip ⟨_, rfl, .inl ⟨_, rfl, rfl⟩⟩ rfl ?_
                          refine t_skip ⟨_, rfl, .inl ⟨_, rfl, rfl⟩⟩ rfl ?_
                          refine t_pick_t rfl rfl rfl rfl rfl ?_
                          refine tr_nil ⟨by kernel_rfl, ?_⟩
                          refine ac_cond rfl (fun hb => ?_) (fun hb => by cases hb)
                          refine ac_ts mixed ?_
                          refine s_build (res := [_, _]) zer30 plc30 rfl rfl rfl rfl rfl ?_
                          first | refine s_storeW ty30 rfl rfl rfl rfl rfl rfl rfl ?_ | refine s_store (ws := [_, _]) ty30 rfl rfl rfl rfl rfl rfl rfl rfl ?_
                          refine t_assign rfl rfl rfl ?_
                          refine tr_nil ?_
                          refine ac_ret ?_
                          refine ⟨.inr rfl, _, ⟨_, _, _, _, _, rfl, rfl, rfl, .inl (retAgg ty30 rfl), ⟨_, _, rfl, rfl, rfl⟩⟩, ?_, ?_⟩
                          · have e : r = (7, .zero) := by rw [← hnode]; simp_all [node, Typ.nat, Typ.list, Typ.func]
                            rw [e]
                            (repeat' (first | exact VLe.rfl | exact VLes.rfl | exact VLes.nil | refine VLes.cons ?_ ?_ | refine VLe.agg ?_ | refine VLe.tup ?_ | exact VLe.own | exact VLe.full | exact VLe.nils | exact VLe.any | exact VLe.clo | exact VLe.fn | refine VLe.intE ?_ | refine VLe.boolE ?_ | refine VLe.sliceE ?_ | refine VLe.ownE ?_ | refine VLe.ownO ?_ | refine VLe.fullE ?_ | refine VLe.nilsE ?_))
                          · (intro l o h; cases h)
                        · refine t_move rfl ⟨_, rfl, .inl ⟨_, rfl, rfl⟩⟩ rfl ?_
                          refine t_indexAddr sli27 rfl (by constructor) rfl (by decide) (h0 hn (by decide)) rfl ⟨_, rfl, .inl ⟨_, rfl, rfl⟩⟩ rfl ?_
                          first | refine t_load ty30 rfl rfl rfl rfl ⟨_, rfl, .inl ⟨_, rfl, rfl⟩⟩ rfl ?_ | refine s_loadWc ty30 rfl rfl ⟨_, rfl, .inl ⟨_, rfl, rfl⟩⟩ rfl ?_ | refine t_loadN (us := [_, _]) ty30 rfl rfl rfl rfl ⟨_, rfl, .inl ⟨_, rfl, rfl⟩⟩ rfl ?_ | refine t_loadNc (us := [_, _]) ty30 rfl rfl rfl ⟨_, rfl, .inl ⟨_, rfl, rfl⟩⟩ rfl ?_
                          first | refine t_load ty30 rfl rfl rfl rfl ⟨_, rfl, .inl ⟨_, rfl, rfl⟩⟩ rfl ?_ | refine s_loadWc ty30 rfl rfl ⟨_, rfl, .inl ⟨_, rfl, rfl⟩⟩ rfl ?_ | refine t_loadN (us := [_, _]) ty30 rfl rfl rfl rfl ⟨_, rfl, .inl ⟨_, rfl, rfl⟩⟩ rfl ?_ | refine t_loadNc (us := [_, _]) ty30 rfl rfl rfl ⟨_, rfl, .inl ⟨_, rfl, rfl⟩⟩ rfl ?_
                          first | refine s_callF rfl .rfl (r1_Same_ev _ (Nat.le_trans (hszs hn (j := 2) (by decide)) (by decide)) _) ⟨_, rfl, .inl ⟨_, rfl, rfl⟩⟩ rfl ?_ | refine s_callF rfl (by (repeat' (first | exact VLes.rfl | exact VLes.nil | exact VLe.rfl | refine VLes.cons ?_ ?_ | exact VLe.own | exact VLe.full | exact VLe.nils | refine VLe.agg ?_ | exact VLe.fullE (dTms_one _) | exact VLe.fullE (dTms_two _ _) | exact VLe.fullE (dTms_three _ _ _) | exact VLe.fullE (dTys_one _) | exact VLe.fullE (dTys_two _ _) | exact VLe.fullE (dTys_three _ _ _)))) (r1_Same_ev _ (Nat.le_trans (hszs hn (j := 2) (by decide)) (by decide)) _) ⟨_, rfl, .inl ⟨_, rfl, rfl⟩⟩ rfl ?_
                          refine t_not rfl ⟨_, rfl, .inl ⟨_, rfl, rfl⟩⟩ rfl ?_
                          refine t_pick_f rfl rfl rfl rfl rfl ?_
                          refine tr_nil ⟨by kernel_rfl, ?_⟩
                          refine ac_bool (fun hb17 => ?_) (fun hb17 => ?_)
                          · refine ac_cond rfl (fun _ => ?_) (fun hb => by cases hb)
                            refine ac_ts mixed ?_
                            refine s_build (res := [_, _]) zer30 plc30 rfl rfl rfl rfl rfl ?_
                            first | refine s_storeW ty30 rfl rfl rfl rfl rfl rfl rfl ?_ | refine s_store (ws := [_, _]) ty30 rfl rfl rfl rfl rfl rfl rfl rfl ?_
                            refine t_assign rfl rfl rfl ?_
                            refine tr_nil ?_
                            refine ac_ret ?_
                            refine ⟨.inr rfl, _, ⟨_, _, _, _, _, rfl, rfl, rfl, .inl (retAgg ty30 rfl), ⟨_, _, rfl, rfl, rfl⟩⟩, ?_, ?_⟩
                            · have e : r = (7, .zero) := by rw [← hnode]; simp_all [node, Typ.nat, Typ.list, Typ.func]
                              rw [e]
                              (repeat' (first | exact VLe.rfl | exact VLes.rfl | exact VLes.nil | refine VLes.cons ?_ ?_ | refine VLe.agg ?_ | refine VLe.tup ?_ | exact VLe.own | exact VLe.full | exact VLe.nils | exact VLe.any | exact VLe.clo | exact VLe.fn | refine VLe.intE ?_ | refine VLe.boolE ?_ | refine VLe.sliceE ?_ | refine VLe.ownE ?_ | refine VLe.ownO ?_ | refine VLe.fullE ?_ | refine VLe.nilsE ?_))
                            · (intro l o h; cases h)
                          · refine ac_cond rfl (fun hb => by cases hb) (fun _ => ?_)
                            refine ac_skip ?_
                            change AC _ _ _ _ _
                            refine ac_ts mixed ?_
                            first | refine t_fieldAddr fld34_2 rfl rfl rfl ?_ | refine t_fieldAddr_c fld34_2 rfl rfl rfl rfl rfl ?_
                            first | refine t_load ty30 rfl rfl rfl rfl rfl rfl ?_ | refine s_loadWc ty30 rfl rfl rfl rfl ?_ | refine t_loadN (us := [_, _]) ty30 rfl rfl rfl rfl rfl rfl ?_ | refine t_loadNc (us := [_, _]) ty30 rfl rfl rfl rfl rfl ?_
                            first | refine s_callF rfl .rfl (r1_Copy_ev _ hty) rfl rfl ?_ | refine s_callF rfl (by (repeat' (first | exact VLes.rfl | exact VLes.nil | exact VLe.rfl | refine VLes.cons ?_ ?_ | exact VLe.own | exact VLe.full | exact VLe.nils | refine VLe.agg ?_ | exact VLe.fullE (dTms_one _) | exact VLe.fullE (dTms_two _ _) | exact VLe.fullE (dTms_three _ _ _) | exact VLe.fullE (dTys_one _) | exact VLe.fullE (dTys_two _ _) | exact VLe.fullE (dTys_three _ _ _)))) (r1_Copy_ev _ hty) rfl rfl ?_
                            first | refine s_storeW ty30 rfl rfl rfl rfl rfl rfl rfl ?_ | refine s_store (ws := [_, _]) ty30 rfl rfl rfl rfl rfl rfl rfl rfl ?_
                            refine t_assign rfl rfl rfl ?_
                            refine tr_nil ?_
                            refine ac_ret ?_
                            refine ⟨.inr rfl, _, ⟨_, _, _, _, _, rfl, rfl, rfl, .inl (retAgg ty30 rfl), ⟨_, _, rfl, rfl, rfl⟩⟩, ?_, ?_⟩
                            · have e : r = (0, ty) := by rw [← hnode]; simp_all [node, Typ.nat, Typ.list, Typ.func]
                              rw [e]
                              (repeat' (first | exact VLe.rfl | exact VLes.rfl | exact VLes.nil | refine VLes.cons ?_ ?_ | refine VLe.agg ?_ | refine VLe.tup ?_ | exact VLe.own | exact VLe.full | exact VLe.nils | exact VLe.any | exact VLe.clo | exact VLe.fn | refine VLe.intE ?_ | refine VLe.boolE ?_ | refine VLe.sliceE ?_ | refine VLe.ownE ?_ | refine VLe.ownO ?_ | refine VLe.fullE ?_ | refine VLe.nilsE ?_))
                            · (intro l o h; cases h)
                    · refine ac_cond rfl (fun hb => by cases hb) (fun _ => ?_)
                      refine ac_ts mixed ?_
                      refine t_bin rfl rfl .eql rfl rfl ?_
                      refine t_assign rfl rfl rfl ?_
                      refine tr_nil ?_
                      refine ac_bool (fun hb18 => ?_) (fun hb18 => ?_)
                      · refine ac_cond rfl (fun _ => ?_) (fun hb => by cases hb)
                        have hk : k = 10 := by simpa using hb18
                        subst hk
                        have hn : us.length = 2 := by simpa [arity] using husl.symm
                        refine ac_ds mixed ?_
                        refine t_move rfl rfl rfl ?_
                        refine t_indexAddr sli27 rfl (by constructor) rfl (by decide) (h0 hn (by decide)) rfl rfl rfl ?_
                        first | refine t_load ty30 rfl rfl rfl rfl rfl rfl ?_ | refine s_loadWc ty30 rfl rfl rfl rfl ?_ | refine t_loadN (us := [_, _]) ty30 rfl rfl rfl rfl rfl rfl ?_ | refine t_loadNc (us := [_, _]) ty30 rfl rfl rfl rfl rfl ?_
                        refine t_move rfl rfl rfl ?_
                        refine t_indexAddr sli27 rfl (by constructor) rfl (by decide) (h0 hn (by decide)) rfl rfl rfl ?_
                        first | refine t_load ty30 rfl rfl rfl rfl rfl rfl ?_ | refine s_loadWc ty30 rfl rfl rfl rfl ?_ | refine t_loadN (us := [_, _]) ty30 rfl rfl rfl rfl rfl rfl ?_ | refine t_loadNc (us := [_, _]) ty30 rfl rfl rfl rfl rfl ?_
                        first | refine s_callF rfl .rfl (r1_Two_ev _ _ (Nat.le_trans (hszs hn (j := 0) (by decide)) (by decide)) (Nat.le_trans (hszs hn (j := 1) (by decide)) (by decide))) rfl rfl ?_ | refine s_callF rfl (by (repeat' (first | exact VLes.rfl | exact VLes.nil | exact VLe.rfl | refine VLes.cons ?_ ?_ | exact VLe.own | exact VLe.full | exact VLe.nils | refine VLe.agg ?_ | exact VLe.fullE (dTms_one _) | exact VLe.fullE (dTms_two _ _) | exact VLe.fullE (dTms_three _ _ _) | exact VLe.fullE (dTys_one _) | exact VLe.fullE (dTys_two _ _) | exact VLe.fullE (dTys_three _ _ _)))) (r1_Two_ev _ _ (Nat.le_trans (hszs hn (j := 0) (by decide)) (by decide)) (Nat.le_trans (hszs hn (j := 1) (by decide)) (by decide))) rfl rfl ?_
                        first | refine s_callF rfl .rfl (ok_ev _ (by have h5 : (us.getD (Int.toNat 0) .zero).sz ≤ 64 := hszs hn (by decide); have h6 : (us.getD (Int.toNat 1) .zero).sz ≤ 64 := hszs hn (by decide); simp only [Typ.sz, szTys]; omega)) rfl rfl ?_ | refine s_callF rfl (by (repeat' (first | exact VLes.rfl | exact VLes.nil | exact VLe.rfl | refine VLes.cons ?_ ?_ | exact VLe.own | exact VLe.full | exact VLe.nils | refine VLe.agg ?_ | exact VLe.fullE (dTms_one _) | exact VLe.fullE (dTms_two _ _) | exact VLe.fullE (dTms_three _ _ _) | exact VLe.fullE (dTys_one _) | exact VLe.fullE (dTys_two _ _) | exact VLe.fullE (dTys_three _ _ _)))) (ok_ev _ (by have h5 : (us.getD (Int.toNat 0) .zero).sz ≤ 64 := hszs hn (by decide); have h6 : (us.getD (Int.toNat 1) .zero).sz ≤ 64 := hszs hn (by decide); simp only [Typ.sz, szTys]; omega)) rfl rfl ?_
                        refine t_extract rfl rfl rfl rfl ?_
                        refine t_extract rfl rfl rfl rfl ?_
                        first | refine s_storeW ty30 rfl rfl rfl rfl rfl rfl rfl ?_ | refine s_store (ws := [_, _]) ty30 rfl rfl rfl rfl rfl rfl rfl rfl ?_
                        refine t_assign rfl rfl rfl ?_
                        refine tr_nil ⟨by kernel_rfl, ?_⟩
                        refine ac_ret ?_
                        refine ⟨.inr rfl, _, ⟨_, _, _, _, _, rfl, rfl, rfl, .inl (retAgg ty30 rfl), ⟨_, _, rfl, rfl, rfl⟩⟩, ?_, ?_⟩
                        · have e : r = okT (.two (us.getD 0 .zero) (us.getD 1 .zero)) := by rw [← hnode]; simp [node]
                          rw [e]
                          (repeat' (first | exact VLe.rfl | exact VLes.rfl | exact VLes.nil | refine VLes.cons ?_ ?_ | refine VLe.agg ?_ | refine VLe.tup ?_ | exact VLe.own | exact VLe.full | exact VLe.nils | exact VLe.any | exact VLe.clo | exact VLe.fn | refine VLe.intE ?_ | refine VLe.boolE ?_ | refine VLe.sliceE ?_ | refine VLe.ownE ?_ | refine VLe.ownO ?_ | refine VLe.fullE ?_ | refine VLe.nilsE ?_))
                        · (intro l o h; cases h)
                      · refine ac_cond rfl (fun hb => by cases hb) (fun _ => ?_)
                        refine ac_seq ?_
                        refine ac_ts mixed ?_
                        refine t_bin rfl rfl .eql rfl rfl ?_
                        refine t_assign rfl rfl rfl ?_
                        refine tr_nil ?_
                        refine ac_bool (fun hb19 => ?_) (fun hb19 => ?_)
                        · refine ac_cond rfl (fun _ => ?_) (fun hb => by cases hb)
                          refine ac_skip ?_
                          change AC _ _ _ _ _
                          refine ac_cond rfl (fun hb => ?_) (fun hb => by cases hb)
                          have hk : k = 11 ∨ k = 12 := by simp_all
                          have hn : us.length = 1 := by rcases hk with rfl | rfl <;> simpa [arity] using husl.symm
                          refine ac_seq ?_
                          refine ac_ts mixed ?_
                          refine t_move rfl rfl rfl ?_
                          refine t_indexAddr sli27 rfl (by constructor) rfl (by decide) (h0 hn (by decide)) rfl rfl rfl ?_
                          first | refine t_fieldAddr fld30_0 rfl rfl rfl ?_ | refine t_fieldAddr_c fld30_0 rfl rfl rfl rfl rfl ?_
                          first | refine t_load1 ty3 rfl rfl rfl rfl rfl ?_ | refine t_load1c ty3 rfl rfl rfl rfl ?_
                          refine t_bin rfl rfl .neq rfl rfl ?_
                          refine tr_nil ?_
                          refine ac_bool (fun hb21 => ?_) (fun hb21 => ?_)
                          · refine ac_cond rfl (fun _ => ?_) (fun hb => by cases hb)
                            refine ac_ts mixed ?_
                            refine s_build (res := [_, _]) zer30 plc30 rfl rfl rfl rfl rfl ?_
                            first | refine s_storeW ty30 rfl rfl rfl rfl rfl rfl rfl ?_ | refine s_store (ws := [_, _]) ty30 rfl rfl rfl rfl rfl rfl rfl rfl ?_
                            refine t_assign rfl rfl rfl ?_
                            refine tr_nil ?_
                            refine ac_ret ?_
                            refine ⟨.inr rfl, _, ⟨_, _, _, _, _, rfl, rfl, rfl, .inl (retAgg ty30 rfl), ⟨_, _, rfl, rfl, rfl⟩⟩, ?_, ?_⟩
                            · have e : r = (7, .zero) := by
                                rw [← hnode]
                                have hc : ((us.getD 0 .zero).kind != 3) = true := hb21
                                rcases hk with rfl | rfl
                                · show (if ((us.getD 0 .zero).kind != 3) = true then _ else _) = _; rw [if_pos hc]
                                · show (if ((us.getD 0 .zero).kind != 3) = true then _ else _) = _; rw [if_pos hc]
                              rw [e]
                              (repeat' (first | exact VLe.rfl | exact VLes.rfl | exact VLes.nil | refine VLes.cons ?_ ?_ | refine VLe.agg ?_ | refine VLe.tup ?_ | exact VLe.own | exact VLe.full | exact VLe.nils | exact VLe.any | exact VLe.clo | exact VLe.fn | refine VLe.intE ?_ | refine VLe.boolE ?_ | refine VLe.sliceE ?_ | refine VLe.ownE ?_ | refine VLe.ownO ?_ | refine VLe.fullE ?_ | refine VLe.nilsE ?_))
                            · (intro l o h; cases h)
                          · refine ac_cond rfl (fun hb => by cases hb) (fun _ => ?_)
                            have hk3 : (us.getD 0 .zero).kind = 3 := by simpa using hb21
                            refine ac_skip ?_
                            change AC _ _ _ _ _
                            refine ac_seq ?_
                            refine ac_ts mixed ?_
                            first | refine t_fieldAddr fld34_0 rfl rfl rfl ?_ | refine t_fieldAddr_c fld34_0 rfl rfl rfl rfl rfl ?_
                            first | refine t_load1 ty3 rfl rfl rfl rfl rfl ?_ | refine t_load1c ty3 rfl rfl rfl rfl ?_
                            refine t_bin rfl rfl .eql rfl rfl ?_
                            refine tr_nil ?_
                            refine ac_bool (fun hb22 => ?_) (fun hb22 => ?_)
                            · refine ac_cond rfl (fun _ => ?_) (fun hb => by cases hb)
                              refine ac_ts mixed ?_
                              refine t_move rfl rfl rfl ?_
                              refine t_indexAddr sli27 rfl (by constructor) rfl (by decide) (h0 hn (by decide)) rfl rfl rfl ?_
                              first | refine t_fieldAddr fld30_1 rfl rfl rfl ?_ | refine t_fieldAddr_c fld30_1 rfl rfl rfl rfl rfl ?_
                              first | refine t_load1 ty27 rfl rfl rfl rfl rfl ?_ | refine t_load1c ty27 rfl rfl rfl rfl ?_
                              refine t_indexAddr sli27 rfl (by constructor) rfl (by decide) (harg hn (by decide) (.inl hk3) (by decide)) rfl rfl rfl ?_
                              first | refine t_load ty30 rfl rfl rfl rfl rfl rfl ?_ | refine s_loadWc ty30 rfl rfl rfl rfl ?_ | refine t_loadN (us := [_, _]) ty30 rfl rfl rfl rfl rfl rfl ?_ | refine t_loadNc (us := [_, _]) ty30 rfl rfl rfl rfl rfl ?_
                              first | refine s_storeW ty30 rfl rfl rfl rfl rfl rfl rfl ?_ | refine s_store (ws := [_, _]) ty30 rfl rfl rfl rfl rfl rfl rfl rfl ?_
                              refine t_assign rfl rfl rfl ?_
                              refine tr_nil ?_
                              refine ac_ret ?_
                              refine ⟨.inr rfl, _, ⟨_, _, _, _, _, rfl, rfl, rfl, .inl (retAgg ty30 rfl), ⟨_, _, rfl, rfl, rfl⟩⟩, ?_, ?_⟩
                              · have e : r = (0, (us.getD 0 .zero).args.getD 0 .zero) := by
                                  have hk' : k = 11 := by simpa using hb22
                                  have hc : ((us.getD 0 .zero).kind != 3) = false := hb21
                                  rw [← hnode, hk']
                                  show (if ((us.getD 0 .zero).kind != 3) = true then _ else _) = _
                                  rw [hc]; rfl
                                rw [e]
                                (repeat' (first | exact VLe.rfl | exact VLes.rfl | exact VLes.nil | refine VLes.cons ?_ ?_ | refine VLe.agg ?_ | refine VLe.tup ?_ | exact VLe.own | exact VLe.full | exact VLe.nils | exact VLe.any | exact VLe.clo | exact VLe.fn | refine VLe.intE ?_ | refine VLe.boolE ?_ | refine VLe.sliceE ?_ | refine VLe.ownE ?_ | refine VLe.ownO ?_ | refine VLe.fullE ?_ | refine VLe.nilsE ?_))
                              · (intro l o h; cases h)
                            · refine ac_cond rfl (fun hb => by cases hb) (fun _ => ?_)
                              refine ac_skip ?_
                              change AC _ _ _ _ _
                              refine ac_ts mixed ?_
                              refine t_move rfl rfl rfl ?_
                              refine t_indexAddr sli27 rfl (by constructor) rfl (by decide) (h0 hn (by decide)) rfl rfl rfl ?_
                              first | refine t_fieldAddr fld30_1 rfl rfl rfl ?_ | refine t_fieldAddr_c fld30_1 rfl rfl rfl rfl rfl ?_
                              first | refine t_load1 ty27 rfl rfl rfl rfl rfl ?_ | refine t_load1c ty27 rfl rfl rfl rfl ?_
                              refine t_indexAddr sli27 rfl (by constructor) rfl (by decide) (harg hn (by decide) (.inl hk3) (by decide)) rfl rfl rfl ?_
                              first | refine t_load ty30 rfl rfl rfl rfl rfl rfl ?_ | refine s_loadWc ty30 rfl rfl rfl rfl ?_ | refine t_loadN (us := [_, _]) ty30 rfl rfl rfl rfl rfl rfl ?_ | refine t_loadNc (us := [_, _]) ty30 rfl rfl rfl rfl rfl ?_
                              first | refine s_storeW ty30 rfl rfl rfl rfl rfl rfl rfl ?_ | refine s_store (ws := [_, _]) ty30 rfl rfl rfl rfl rfl rfl rfl rfl ?_
                              refine t_assign rfl rfl rfl ?_
                              refine tr_nil ?_
                              refine ac_ret ?_
                              refine ⟨.inr rfl, _, ⟨_, _, _, _, _, rfl, rfl, rfl, .inl (retAgg ty30 rfl), ⟨_, _, rfl, rfl, rfl⟩⟩, ?_, ?_⟩
                              · have e : r = (0, (us.getD 0 .zero).args.getD 1 .zero) := by
                                  have hk' : k = 12 := hk.resolve_left (by simpa using hb22)
                                  have hc : ((us.getD 0 .zero).kind != 3) = false := hb21
                                  rw [← hnode, hk']
                                  show (if ((us.getD 0 .zero).kind != 3) = true then _ else _) = _
                                  rw [hc]; rfl
                                rw [e]
                                (repeat' (first | exact VLe.rfl | exact VLes.rfl | exact VLes.nil | refine VLes.cons ?_ ?_ | refine VLe.agg ?_ | refine VLe.tup ?_ | exact VLe.own | exact VLe.full | exact VLe.nils | exact VLe.any | exact VLe.clo | exact VLe.fn | refine VLe.intE ?_ | refine VLe.boolE ?_ | refine VLe.sliceE ?_ | refine VLe.ownE ?_ | refine VLe.ownO ?_ | refine VLe.fullE ?_ | refine VLe.nilsE ?_))
                              · (intro l o h; cases h)
                        · refine ac_cond rfl (fun hb => by cases hb) (fun _ => ?_)
                          refine ac_t mixed ?_
                          refine t_bin rfl rfl .eql rfl rfl ?_
                          refine t_assign rfl rfl rfl ?_
                          refine tr_nil ?_
                          change AC _ _ _ _ _
                          refine ac_bool (fun hb20 => ?_) (fun hb20 => ?_)
                          · refine ac_cond rfl (fun _ => ?_) (fun hb => by cases hb)
                            have hk : k = 11 ∨ k = 12 := by simp_all
                            have hn : us.length = 1 := by rcases hk with rfl | rfl <;> simpa [arity] using husl.symm
                            refine ac_seq ?_
                            refine ac_ts mixed ?_
                            refine t_move rfl rfl rfl ?_
                            refine t_indexAddr sli27 rfl (by constructor) rfl (by decide) (h0 hn (by decide)) rfl rfl rfl ?_
                            first | refine t_fieldAddr fld30_0 rfl rfl rfl ?_ | refine t_fieldAddr_c fld30_0 rfl rfl rfl rfl rfl ?_
                            first | refine t_load1 ty3 rfl rfl rfl rfl rfl ?_ | refine t_load1c ty3 rfl rfl rfl rfl ?_
                            refine t_bin rfl rfl .neq rfl rfl ?_
                            refine tr_nil ?_
                            refine ac_bool (fun hb21 => ?_) (fun hb21 => ?_)
                            · refine ac_cond rfl (fun _ => ?_) (fun hb => by cases hb)
                              refine ac_ts mixed ?_
                              refine s_build (res := [_, _]) zer30 plc30 rfl rfl rfl rfl rfl ?_
                              first | refine s_storeW ty30 rfl rfl rfl rfl rfl rfl rfl ?_ | refine s_store (ws := [_, _]) ty30 rfl rfl rfl rfl rfl rfl rfl rfl ?_
                              refine t_assign rfl rfl rfl ?_
                              refine tr_nil ?_
                              refine ac_ret ?_
                              refine ⟨.inr rfl, _, ⟨_, _, _, _, _, rfl, rfl, rfl, .inl (retAgg ty30 rfl), ⟨_, _, rfl, rfl, rfl⟩⟩, ?_, ?_⟩
                              · have e : r = (7, .zero) := by
                                  rw [← hnode]
                                  have hc : ((us.getD 0 .zero).kind != 3) = true := hb21
                                  rcases hk with rfl | rfl
                                  · show (if ((us.getD 0 .zero).kind != 3) = true then _ else _) = _; rw [if_pos hc]
                                  · show (if ((us.getD 0 .zero).kind != 3) = true then _ else _) = _; rw [if_pos hc]
                                rw [e]
                                (repeat' (first | exact VLe.rfl | exact VLes.rfl | exact VLes.nil | refine VLes.cons ?_ ?_ | refine VLe.agg ?_ | refine VLe.tup ?_ | exact VLe.own | exact VLe.full | exact VLe.nils | exact VLe.any | exact VLe.clo | exact VLe.fn | refine VLe.intE ?_ | refine VLe.boolE ?_ | refine VLe.sliceE ?_ | refine VLe.ownE ?_ | refine VLe.ownO ?_ | refine VLe.fullE ?_ | refine VLe.nilsE ?_))
                              · (intro l o h; cases h)
                            · refine ac_cond rfl (fun hb => by cases hb) (fun _ => ?_)
                              have hk3 : (us.getD 0 .zero).kind = 3 := by simpa using hb21
                              refine ac_skip ?_
                              change AC _ _ _ _ _
                              refine ac_seq ?_
                              refine ac_ts mixed ?_
                              first | refine t_fieldAddr fld34_0 rfl rfl rfl ?_ | refine t_fieldAddr_c fld34_0 rfl rfl rfl rfl rfl ?_
                              first | refine t_load1 ty3 rfl rfl rfl rfl rfl ?_ | refine t_load1c ty3 rfl rfl rfl rfl ?_
                              refine t_bin rfl rfl .eql rfl rfl ?_
                              refine tr_nil ?_
                              refine ac_bool (fun hb22 => ?_) (fun hb22 => ?_)
                              · refine ac_cond rfl (fun _ => ?_) (fun hb => by cases hb)
                                refine ac_ts mixed ?_
                                refine t_move rfl rfl rfl ?_
                                refine t_indexAddr sli27 rfl (by constructor) rfl (by decide) (h0 hn (by decide)) rfl rfl rfl ?_
                                first | refine t_fieldAddr fld30_1 rfl rfl rfl ?_ | refine t_fieldAddr_c fld30_1 rfl rfl rfl rfl rfl ?_
                                first | refine t_load1 ty27 rfl rfl rfl rfl rfl ?_ | refine t_load1c ty27 rfl rfl rfl rfl ?_
                                refine t_indexAddr sli27 rfl (by constructor) rfl (by decide) (harg hn (by decide) (.inl hk3) (by decide)) rfl rfl rfl ?_
                                first | refine t_load ty30 rfl rfl rfl rfl rfl rfl ?_ | refine s_loadWc ty30 rfl rfl rfl rfl ?_ | refine t_loadN (us := [_, _]) ty30 rfl rfl rfl rfl rfl rfl ?_ | refine t_loadNc (us := [_, _]) ty30 rfl rfl rfl rfl rfl ?_
                                first | refine s_storeW ty30 rfl rfl rfl rfl rfl rfl rfl ?_ | refine s_store (ws := [_, _]) ty30 rfl rfl rfl rfl rfl rfl rfl rfl ?_
                                refine t_assign rfl rfl rfl ?_
                                refine tr_nil ?_
                                refine ac_ret ?_
                                refine ⟨.inr rfl, _, ⟨_, _, _, _, _, rfl, rfl, rfl, .inl (retAgg ty30 rfl), ⟨_, _, rfl, rfl, rfl⟩⟩, ?_, ?_⟩
                                · have e : r = (0, (us.getD 0 .zero).args.getD 0 .zero) := by
                                    have hk' : k = 11 := by simpa using hb22
                                    have hc : ((us.getD 0 .zero).kind != 3) = false := hb21
                                    rw [← hnode, hk']
                                    show (if ((us.getD 0 .zero).kind != 3) = true then _ else _) = _
                                    rw [hc]; rfl
                                  rw [e]
                                  (repeat' (first | exact VLe.rfl | exact VLes.rfl | exact VLes.nil | refine VLes.cons ?_ ?_ | refine VLe.agg ?_ | refine VLe.tup ?_ | exact VLe.own | exact VLe.full | exact VLe.nils | exact VLe.any | exact VLe.clo | exact VLe.fn | refine VLe.intE ?_ | refine VLe.boolE ?_ | refine VLe.sliceE ?_ | refine VLe.ownE ?_ | refine VLe.ownO ?_ | refine VLe.fullE ?_ | refine VLe.nilsE ?_))
                                · (intro l o h; cases h)
                              · refine ac_cond rfl (fun hb => by cases hb) (fun _ => ?_)
                                refine ac_skip ?_
                                change AC _ _ _ _ _
                                refine ac_ts mixed ?_
                                refine t_move rfl rfl rfl ?_
                                refine t_indexAddr sli27 rfl (by constructor) rfl (by decide) (h0 hn (by decide)) rfl rfl rfl ?_
                                first | refine t_fieldAddr fld30_1 rfl rfl rfl ?_ | refine t_fieldAddr_c fld30_1 rfl rfl rfl rfl rfl ?_
                                first | refine t_load1 ty27 rfl rfl rfl rfl rfl ?_ | refine t_load1c ty27 rfl rfl rfl rfl ?_
                                refine t_indexAddr sli27 rfl (by constructor) rfl (by decide) (harg hn (by decide) (.inl hk3) (by decide)) rfl rfl rfl ?_
                                first | refine t_load ty30 rfl rfl rfl rfl rfl rfl ?_ | refine s_loadWc ty30 rfl rfl rfl rfl ?_ | refine t_loadN (us := [_, _]) ty30 rfl rfl rfl rfl rfl rfl ?_ | refine t_loadNc (us := [_, _]) ty30 rfl rfl rfl rfl rfl ?_
                                first | refine s_storeW ty30 rfl rfl rfl rfl rfl rfl rfl ?_ | refine s_store (ws := [_, _]) ty30 rfl rfl rfl rfl rfl rfl rfl rfl ?_
                                refine t_assign rfl rfl rfl ?_
                                refine tr_nil ?_
                                refine ac_ret ?_
                                refine ⟨.inr rfl, _, ⟨_, _, _, _, _, rfl, rfl, rfl, .inl (retAgg ty30 rfl), ⟨_, _, rfl, rfl, rfl⟩⟩, ?_, ?_⟩
                                · have e : r = (0, (us.getD 0 .zero).args.getD 1 .zero) := by
                                    have hk' : k = 12 := hk.resolve_left (by simpa using hb22)
                                    have hc : ((us.getD 0 .zero).kind != 3) = false := hb21
                                    rw [← hnode, hk']
                                    show (if ((us.getD 0 .zero).kind != 3) = true then _ else _) = _
                                    rw [hc]; rfl
                                  rw [e]
                                  (repeat' (first | exact VLe.rfl | exact VLes.rfl | exact VLes.nil | refine VLes.cons ?_ ?_ | refine VLe.agg ?_ | refine VLe.tup ?_ | exact VLe.own | exact VLe.full | exact VLe.nils | exact VLe.any | exact VLe.clo | exact VLe.fn | refine VLe.intE ?_ | refine VLe.boolE ?_ | refine VLe.sliceE ?_ | refine VLe.ownE ?_ | refine VLe.ownO ?_ | refine VLe.fullE ?_ | refine VLe.nilsE ?_))
                                · (intro l o h; cases h)
                          · refine ac_cond rfl (fun hb => by cases hb) (fun _ => ?_)
                            refine ac_skip ?_
                            change AC _ _ _ _ _
                            refine ac_ts mixed ?_
                            first | refine s_callF rfl .rfl (r1_Unit_ev) rfl rfl ?_ | refine s_callF rfl (by (repeat' (first | exact VLes.rfl | exact VLes.nil | exact VLe.rfl | refine VLes.cons ?_ ?_ | exact VLe.own | exact VLe.full | exact VLe.nils | refine VLe.agg ?_ | exact VLe.fullE (dTms_one _) | exact VLe.fullE (dTms_two _ _) | exact VLe.fullE (dTms_three _ _ _) | exact VLe.fullE (dTys_one _) | exact VLe.fullE (dTys_two _ _) | exact VLe.fullE (dTys_three _ _ _)))) (r1_Unit_ev) rfl rfl ?_
                            first | refine s_storeW ty30 rfl rfl rfl rfl rfl rfl rfl ?_ | refine s_store (ws := [_, _]) ty30 rfl rfl rfl rfl rfl rfl rfl rfl ?_
                            refine t_assign rfl rfl rfl ?_
                            refine tr_nil ?_
                            refine ac_ret ?_
                            refine ⟨.inr rfl, _, ⟨_, _, _, _, _, rfl, rfl, rfl, .inl (retAgg ty30 rfl), ⟨_, _, rfl, rfl, rfl⟩⟩, ?_, ?_⟩
                            · have e : r = (0, .unit) := by
                                rw [← hnode]
                                simp only [node, hb2, hb6, hb8, hb9, hb11, hb13, hb14, hb16, hb18, hb19, hb20, Bool.false_eq_true, if_false]
                              rw [e]
                              (repeat' (first | exact VLe.rfl | exact VLes.rfl | exact VLes.nil | refine VLes.cons ?_ ?_ | refine VLe.agg ?_ | refine VLe.tup ?_ | exact VLe.own | exact VLe.full | exact VLe.nils | exact VLe.any | exact VLe.clo | exact VLe.fn | refine VLe.intE ?_ | refine VLe.boolE ?_ | refine VLe.sliceE ?_ | refine VLe.ownE ?_ | refine VLe.ownO ?_ | refine VLe.fullE ?_ | refine VLe.nilsE ?_))
                            · (intro l o h; cases h)
theorem r1_Context_ev (l : List Typ) (hl : l.length ≤ 1000000) (hs : ∀ a ∈ l, a.sz ≤ 1000000) : Ev Tryd.prog GL 40 [.d (.slice (dTys l))] [] (.d (.int .i64 (ctxErr l))) [] := by
  -- live at block 0: 
  -- live at block 1: t9, t10, t11
  -- live at cond 0: t0
  -- live at cond 1: t9, t10, t11
  -- live at cond 2: t9, t10, t11
  -- live at loop 0: t9, t10, t11
  refine ev_of_body (N := 21) (ks := []) (ρ0 := [(0, _)]) (σ0 := []) (rs := [.tmp 2]) Tryd.func40 rfl (by kernel_rfl) rfl rfl rfl rfl rfl rfl rfl rfl rfl rfl (fun E ι0 => ?_)
  refine ac_ts mixed ?_
  refine t_assign rfl rfl rfl ?_
  refine tr_nil ?_
  refine ac_seq ?_
  refine ac_ts mixed ?_
  refine t_move rfl rfl rfl ?_
  refine t_len rfl sli27 rfl (by constructor) rfl rfl ?_
  refine t_bin rfl rfl .gtr rfl rfl ?_
  refine tr_nil ?_
  refine ac_bool (fun hb0 => ?_) (fun hb0 => ?_)
  · refine ac_cond rfl (fun _ => ?_) (fun hb => by cases hb)
    refine ac_ts mixed ?_
    refine t_assign rfl rfl rfl ?_
    refine tr_nil ?_
    refine ac_ret ?_
    refine ⟨.inr rfl, _, ⟨_, _, rfl, rfl, rfl⟩, ?_, ?_⟩
    · rw [show ctxErr l = 3 by rw [dTys_len] at hb0; simp only [ctxErr]; rw [if_pos hb0]]
      (repeat' (first | exact VLe.rfl | exact VLes.rfl | exact VLes.nil | refine VLes.cons ?_ ?_ | refine VLe.agg ?_ | refine VLe.tup ?_ | exact VLe.own | exact VLe.full | exact VLe.nils | exact VLe.any | exact VLe.clo | exact VLe.fn | refine VLe.intE ?_ | refine VLe.boolE ?_ | refine VLe.sliceE ?_ | refine VLe.ownE ?_ | refine VLe.ownO ?_ | refine VLe.fullE ?_ | refine VLe.nilsE ?_))
    · (intro l o h; cases h)
  · refine ac_cond rfl (fun hb => by cases hb) (fun _ => ?_)
    have hc : ctxErr l = ctxE l := by rw [dTys_len] at hb0; simp only [ctxErr]; rw [hb0]; rfl
    rw [hc]
    refine ac_skip ?_
    change AC _ _ _ _ _
    refine ac_seq ?_
    refine ac_ts mixed ?_
    refine t_move rfl rfl rfl ?_
    refine t_len rfl sli27 rfl (by constructor) rfl rfl ?_
    refine t_move rfl rfl rfl ?_
    refine tr_nil ?_
    refine ac_range mixed ((dTys l).length) (fun i => [(9, .d (.slice (dTys l)))]) (fun i => []) (fun i => []) (fun i => ∀ (j : Nat) a, j < i → l[j]? = some a → a.err = 0) (by simp) ?_ (by first | omega | (simp only [dTys_len, dTms_len, dInts_len, List.length_append, List.length_cons, List.length_nil, List.length_take]; omega)) rfl (fun i => ⟨rfl, rfl⟩) (fun i hi hI => ?_) (fun hI => ?_)
    · (refine weak_of ?_ ?_ rfl rfl rfl <;> (repeat' (first | exact trivial | refine ⟨⟨_, rfl, ?_⟩, ?_⟩ | exact OLe.rfl | refine OLe.cells ?_ | exact VLe.rfl | exact VLes.rfl | exact VLes.nil | refine VLes.cons ?_ ?_ | refine VLe.agg ?_ | refine VLe.tup ?_ | exact VLe.own | exact VLe.full | exact VLe.nils | exact VLe.any | exact VLe.clo | exact VLe.fn | refine VLe.intE ?_ | refine VLe.boolE ?_ | refine VLe.sliceE ?_ | refine VLe.ownE ?_ | refine VLe.ownO ?_ | refine VLe.fullE ?_ | refine VLe.nilsE ?_ | refine OLe.row ?_)))
    · rw [dTys_len] at hi
      have hg : l[i]? = some l[i] := List.getElem?_eq_getElem hi
      have hget := dTys_get hg
      have hm := List.getElem_mem hi
      refine ac_ts mixed ?_
      refine t_indexAddr sli27 rfl (by constructor) rfl (Int.natCast_nonneg _) hget rfl rfl rfl ?_
      first | refine t_load ty30 rfl rfl rfl rfl rfl rfl ?_ | refine s_loadWc ty30 rfl rfl rfl rfl ?_ | refine t_loadN (us := [_, _]) ty30 rfl rfl rfl rfl rfl rfl ?_ | refine t_loadNc (us := [_, _]) ty30 rfl rfl rfl rfl rfl ?_
      refine s_alloc 4 zer30 rfl rfl rfl rfl ?_
      first | refine s_storeW ty30 rfl rfl rfl rfl rfl rfl rfl ?_ | refine s_store (ws := [_, _]) ty30 rfl rfl rfl rfl rfl rfl rfl rfl ?_
      refine tr_nil ?_
      refine ac_ts mixed ?_
      first | refine t_load ty30 rfl rfl rfl rfl rfl rfl ?_ | refine s_loadWc ty30 rfl rfl rfl rfl ?_ | refine t_loadN (us := [_, _]) ty30 rfl rfl rfl rfl rfl rfl ?_ | refine t_loadNc (us := [_, _]) ty30 rfl rfl rfl rfl rfl ?_
      first | refine s_callF rfl .rfl (r1_Check_ev _ (hs _ hm)) rfl rfl ?_ | refine s_callF rfl (by (repeat' (first | exact VLes.rfl | exact VLes.nil | exact VLe.rfl | refine VLes.cons ?_ ?_ | exact VLe.own | exact VLe.full | exact VLe.nils | refine VLe.agg ?_ | exact VLe.fullE (dTms_one _) | exact VLe.fullE (dTms_two _ _) | exact VLe.fullE (dTms_three _ _ _) | exact VLe.fullE (dTys_one _) | exact VLe.fullE (dTys_two _ _) | exact VLe.fullE (dTys_three _ _ _)))) (r1_Check_ev _ (hs _ hm)) rfl rfl ?_
      refine t_assign rfl rfl rfl ?_
      refine tr_nil ?_
      refine ac_ts mixed ?_
      refine t_move rfl rfl rfl ?_
      refine t_bin rfl rfl .neq rfl rfl ?_
      refine tr_nil ?_
      refine ac_bool (fun hb2 => ?_) (fun hb2 => ?_)
      · refine ac_cond rfl (fun _ => ?_) (fun hb => by cases hb)
        refine ac_ts mixed ?_
        refine t_move rfl rfl rfl ?_
        refine t_assign rfl rfl rfl ?_
        refine tr_nil ?_
        refine ac_ret ?_
        refine ⟨.inr rfl, _, ⟨_, _, rfl, rfl, rfl⟩, ?_, ?_⟩
        · rw [show ctxE l = l[i].err from ctxE_bad hg hI (by simpa using hb2)]
          (repeat' (first | exact VLe.rfl | exact VLes.rfl | exact VLes.nil | refine VLes.cons ?_ ?_ | refine VLe.agg ?_ | refine VLe.tup ?_ | exact VLe.own | exact VLe.full | exact VLe.nils | exact VLe.any | exact VLe.clo | exact VLe.fn | refine VLe.intE ?_ | refine VLe.boolE ?_ | refine VLe.sliceE ?_ | refine VLe.ownE ?_ | refine VLe.ownO ?_ | refine VLe.fullE ?_ | refine VLe.nilsE ?_))
        · (intro l o h; cases h)
      · refine ac_cond rfl (fun hb => by cases hb) (fun _ => ?_)
        refine ac_skip ?_
        show _ ∧ Weak _ _ _
        refine ⟨fun j a hj ha => by
           by_cases e : j = i
           · subst e; rw [hg] at ha; injection ha with ha; subst ha; simpa using hb2
           · exact hI j a (by omega) ha, ?_⟩
        (refine weak_of ?_ ?_ rfl rfl rfl <;> (repeat' (first | exact trivial | refine ⟨⟨_, rfl, ?_⟩, ?_⟩ | exact OLe.rfl | refine OLe.cells ?_ | exact VLe.rfl | exact VLes.rfl | exact VLes.nil | refine VLes.cons ?_ ?_ | refine VLe.agg ?_ | refine VLe.tup ?_ | exact VLe.own | exact VLe.full | exact VLe.nils | exact VLe.any | exact VLe.clo | exact VLe.fn | refine VLe.intE ?_ | refine VLe.boolE ?_ | refine VLe.sliceE ?_ | refine VLe.ownE ?_ | refine VLe.ownO ?_ | refine VLe.fullE ?_ | refine VLe.nilsE ?_ | refine OLe.row ?_)))
    · skip
      change AC _ _ _ _ _
      refine ac_ts mixed ?_
      refine t_assign rfl rfl rfl ?_
      refine tr_nil ?_
      refine ac_ret ?_
      refine ⟨.inr rfl, _, ⟨_, _, rfl, rfl, rfl⟩, ?_, ?_⟩
      · rw [ctxE_ok fun a ha => by
          obtain ⟨j, h1, h2⟩ := List.getElem_of_mem ha
          exact hI j a (by rw [dTys_len]; omega) (by rw [List.getElem?_eq_getElem h1, h2])]
        (repeat' (first | exact VLe.rfl | exact VLes.rfl | exact VLes.nil | refine VLes.cons ?_ ?_ | refine VLe.agg ?_ | refine VLe.tup ?_ | exact VLe.own | exact VLe.full | exact VLe.nils | exact VLe.any | exact VLe.clo | exact VLe.fn | refine VLe.intE ?_ | refine VLe.boolE ?_ | refine VLe.sliceE ?_ | refine VLe.ownE ?_ | refine VLe.ownO ?_ | refine VLe.fullE ?_ | refine VLe.nilsE ?_))
      · (intro l o h; cases h)
theorem r2_Typed_ev (g : List Typ) (hg : ∀ a ∈ g, a.okB = true) (hgl : g.length ≤ 1000000) (t : Trm) (ht : t.big ≤ 1000000) : Ev Tryd.prog GL 41 [.d (.slice (dTys g)), vTm t] [] (.tup [vTy (typedE g t).2, .d (.int .i64 (typedE g t).1)]) [] := by
  -- live at cond 0: t0, t3(ptr), t4(ptr)
  refine ev_of_body (N := 18) (ks := []) (ρ0 := [(0, _), (1, _)]) (σ0 := []) (rs := [.cell 4 30, .tmp 5]) Tryd.func41 rfl (by kernel_rfl) rfl rfl rfl rfl rfl rfl rfl rfl rfl rfl (fun E ι0 => ?_)
  refine ac_ts mixed ?_
  refine s_box 3 rfl rfl rfl rfl rfl ?_
  refine s_alloc 4 zer30 rfl rfl rfl rfl ?_
  refine t_assign rfl rfl rfl ?_
  refine tr_nil ?_
  refine ac_seq ?_
  refine ac_ts mixed ?_
  first | refine t_load ty34 rfl rfl rfl rfl rfl rfl ?_ | refine s_loadWc ty34 rfl rfl rfl rfl ?_ | refine t_loadN (us := [_, _, _, _, _]) ty34 rfl rfl rfl rfl rfl rfl ?_ | refine t_loadNc (us := [_, _, _, _, _]) ty34 rfl rfl rfl rfl rfl ?_
  first | refine s_callF rfl .rfl (r2_Check_ev t ht) rfl rfl ?_ | refine s_callF rfl (by (repeat' (first | exact VLes.rfl | exact VLes.nil | exact VLe.rfl | refine VLes.cons ?_ ?_ | exact VLe.own | exact VLe.full | exact VLe.nils | refine VLe.agg ?_ | exact VLe.fullE (dTms_one _) | exact VLe.fullE (dTms_two _ _) | exact VLe.fullE (dTms_three _ _ _) | exact VLe.fullE (dTys_one _) | exact VLe.fullE (dTys_two _ _) | exact VLe.fullE (dTys_three _ _ _)))) (r2_Check_ev t ht) rfl rfl ?_
  refine t_assign rfl rfl rfl ?_
  refine tr_nil ?_
  refine ac_ts mixed ?_
  refine t_move rfl rfl rfl ?_
  refine t_bin rfl rfl .neq rfl rfl ?_
  refine tr_nil ?_
  refine ac_bool (fun hb0 => ?_) (fun hb0 => ?_)
  · refine ac_cond rfl (fun _ => ?_) (fun hb => by cases hb)
    refine ac_ts mixed ?_
    refine s_build (res := [_, _]) zer30 plc30 rfl rfl rfl rfl rfl ?_
    refine t_move rfl rfl rfl ?_
    first | refine s_storeW ty30 rfl rfl rfl rfl rfl rfl rfl ?_ | refine s_store (ws := [_, _]) ty30 rfl rfl rfl rfl rfl rfl rfl rfl ?_
    refine t_assign rfl rfl rfl ?_
    refine tr_nil ?_
    refine ac_ret ?_
    refine ⟨.inr rfl, _, ⟨_, _, _, _, _, rfl, rfl, rfl, .inl (retAgg ty30 rfl), ⟨_, _, rfl, rfl, rfl⟩⟩, ?_, ?_⟩
    · rw [show typedE g t = (t.err, .zero) by simp only [typedE]; rw [if_pos hb0]]
      (repeat' (first | exact VLe.rfl | exact VLes.rfl | exact VLes.nil | refine VLes.cons ?_ ?_ | refine VLe.agg ?_ | refine VLe.tup ?_ | exact VLe.own | exact VLe.full | exact VLe.nils | exact VLe.any | exact VLe.clo | exact VLe.fn | refine VLe.intE ?_ | refine VLe.boolE ?_ | refine VLe.sliceE ?_ | refine VLe.ownE ?_ | refine VLe.ownO ?_ | refine VLe.fullE ?_ | refine VLe.nilsE ?_))
    · (intro l o h; cases h)
  · refine ac_cond rfl (fun hb => by cases hb) (fun _ => ?_)
    have hsh : t.shape = true := by
      have : t.err = 0 := by simpa using hb0
      cases h : t.shape with
    | true => rfl
    | false => simp [Trm.err, h] at this
    refine ac_skip ?_
    change AC _ _ _ _ _
    refine ac_ts mixed ?_
    refine t_move rfl rfl rfl ?_
    first | refine t_load ty34 rfl rfl rfl rfl rfl rfl ?_ | refine s_loadWc ty34 rfl rfl rfl rfl ?_ | refine t_loadN (us := [_, _, _, _, _]) ty34 rfl rfl rfl rfl rfl rfl ?_ | refine t_loadNc (us := [_, _, _, _, _]) ty34 rfl rfl rfl rfl rfl ?_
    first | refine s_callF rfl .rfl (infer_ev t ht hsh g hg (by omega)) rfl rfl ?_ | refine s_callF rfl (by (repeat' (first | exact VLes.rfl | exact VLes.nil | exact VLe.rfl | refine VLes.cons ?_ ?_ | exact VLe.own | exact VLe.full | exact VLe.nils | refine VLe.agg ?_ | exact VLe.fullE (dTms_one _) | exact VLe.fullE (dTms_two _ _) | exact VLe.fullE (dTms_three _ _ _) | exact VLe.fullE (dTys_one _) | exact VLe.fullE (dTys_two _ _) | exact VLe.fullE (dTys_three _ _ _)))) (infer_ev t ht hsh g hg (by omega)) rfl rfl ?_
    refine t_extract rfl rfl rfl rfl ?_
    refine t_extract rfl rfl rfl rfl ?_
    first | refine s_storeW ty30 rfl rfl rfl rfl rfl rfl rfl ?_ | refine s_store (ws := [_, _]) ty30 rfl rfl rfl rfl rfl rfl rfl rfl ?_
    refine t_assign rfl rfl rfl ?_
    refine tr_nil ?_
    refine ac_ret ?_
    refine ⟨.inr rfl, _, ⟨_, _, _, _, _, rfl, rfl, rfl, .inl (retAgg ty30 rfl), ⟨_, _, rfl, rfl, rfl⟩⟩, ?_, ?_⟩
    · rw [show typedE g t = t.infer g by simp only [typedE]; rw [hb0]; rfl]
      (repeat' (first | exact VLe.rfl | exact VLes.rfl | exact VLes.nil | refine VLes.cons ?_ ?_ | refine VLe.agg ?_ | refine VLe.tup ?_ | exact VLe.own | exact VLe.full | exact VLe.nils | exact VLe.any | exact VLe.clo | exact VLe.fn | refine VLe.intE ?_ | refine VLe.boolE ?_ | refine VLe.sliceE ?_ | refine VLe.ownE ?_ | refine VLe.ownO ?_ | refine VLe.fullE ?_ | refine VLe.nilsE ?_))
    · (intro l o h; cases h)
theorem r2_TypeOf_ev (g : List Typ) (hgl : g.length ≤ 1000000) (hs : ∀ a ∈ g, a.sz ≤ 1000000) (t : Trm) (ht : t.big ≤ 1000000) : Ev Tryd.prog GL 13 [.d (.slice (dTys g)), vTm t] [] (.tup [vTy (typeOf g t).2, .d (.int .i64 (typeOf g t).1)]) [] := by
  -- live at cond 0: t0, t3(ptr), t4(ptr)
  refine ev_of_body (N := 18) (ks := []) (ρ0 := [(0, _), (1, _)]) (σ0 := []) (rs := [.cell 4 30, .tmp 5]) Tryd.func13 rfl (by kernel_rfl) rfl rfl rfl rfl rfl rfl rfl rfl rfl rfl (fun E ι0 => ?_)
  refine ac_ts mixed ?_
  refine s_box 3 rfl rfl rfl rfl rfl ?_
  refine s_alloc 4 zer30 rfl rfl rfl rfl ?_
  refine t_assign rfl rfl rfl ?_
  refine tr_nil ?_
  refine ac_seq ?_
  refine ac_ts mixed ?_
  refine t_move rfl rfl rfl ?_
  first | refine s_callF rfl .rfl (r1_Context_ev g hgl hs) rfl rfl ?_ | refine s_callF rfl (by (repeat' (first | exact VLes.rfl | exact VLes.nil | exact VLe.rfl | refine VLes.cons ?_ ?_ | exact VLe.own | exact VLe.full | exact VLe.nils | refine VLe.agg ?_ | exact VLe.fullE (dTms_one _) | exact VLe.fullE (dTms_two _ _) | exact VLe.fullE (dTms_three _ _ _) | exact VLe.fullE (dTys_one _) | exact VLe.fullE (dTys_two _ _) | exact VLe.fullE (dTys_three _ _ _)))) (r1_Context_ev g hgl hs) rfl rfl ?_
  refine t_assign rfl rfl rfl ?_
  refine tr_nil ?_
  refine ac_ts mixed ?_
  refine t_move rfl rfl rfl ?_
  refine t_bin rfl rfl .neq rfl rfl ?_
  refine tr_nil ?_
  refine ac_bool (fun hb0 => ?_) (fun hb0 => ?_)
  · refine ac_cond rfl (fun _ => ?_) (fun hb => by cases hb)
    refine ac_ts mixed ?_
    refine s_build (res := [_, _]) zer30 plc30 rfl rfl rfl rfl rfl ?_
    refine t_move rfl rfl rfl ?_
    first | refine s_storeW ty30 rfl rfl rfl rfl rfl rfl rfl ?_ | refine s_store (ws := [_, _]) ty30 rfl rfl rfl rfl rfl rfl rfl rfl ?_
    refine t_assign rfl rfl rfl ?_
    refine tr_nil ?_
    refine ac_ret ?_
    refine ⟨.inr rfl, _, ⟨_, _, _, _, _, rfl, rfl, rfl, .inl (retAgg ty30 rfl), ⟨_, _, rfl, rfl, rfl⟩⟩, ?_, ?_⟩
    · rw [show typeOf g t = (ctxErr g, .zero) by simp only [typeOf]; rw [if_pos hb0]]
      (repeat' (first | exact VLe.rfl | exact VLes.rfl | exact VLes.nil | refine VLes.cons ?_ ?_ | refine VLe.agg ?_ | refine VLe.tup ?_ | exact VLe.own | exact VLe.full | exact VLe.nils | exact VLe.any | exact VLe.clo | exact VLe.fn | refine VLe.intE ?_ | refine VLe.boolE ?_ | refine VLe.sliceE ?_ | refine VLe.ownE ?_ | refine VLe.ownO ?_ | refine VLe.fullE ?_ | refine VLe.nilsE ?_))
    · (intro l o h; cases h)
  · refine ac_cond rfl (fun hb => by cases hb) (fun _ => ?_)
    have hok : ∀ a ∈ g, a.okB = true := by
      have : ctxErr g = 0 := by simpa using hb0
      unfold ctxErr at this
      split at this
      · cases this
      · exact ctxE_iff.1 this
    refine ac_skip ?_
    change AC _ _ _ _ _
    refine ac_ts mixed ?_
    refine t_move rfl rfl rfl ?_
    first | refine t_load ty34 rfl rfl rfl rfl rfl rfl ?_ | refine s_loadWc ty34 rfl rfl rfl rfl ?_ | refine t_loadN (us := [_, _, _, _, _]) ty34 rfl rfl rfl rfl rfl rfl ?_ | refine t_loadNc (us := [_, _, _, _, _]) ty34 rfl rfl rfl rfl rfl ?_
    first | refine s_callF rfl .rfl (r2_Typed_ev g hok hgl t ht) rfl rfl ?_ | refine s_callF rfl (by (repeat' (first | exact VLes.rfl | exact VLes.nil | exact VLe.rfl | refine VLes.cons ?_ ?_ | exact VLe.own | exact VLe.full | exact VLe.nils | refine VLe.agg ?_ | exact VLe.fullE (dTms_one _) | exact VLe.fullE (dTms_two _ _) | exact VLe.fullE (dTms_three _ _ _) | exact VLe.fullE (dTys_one _) | exact VLe.fullE (dTys_two _ _) | exact VLe.fullE (dTys_three _ _ _)))) (r2_Typed_ev g hok hgl t ht) rfl rfl ?_
    refine t_extract rfl rfl rfl rfl ?_
    refine t_extract rfl rfl rfl rfl ?_
    first | refine s_storeW ty30 rfl rfl rfl rfl rfl rfl rfl ?_ | refine s_store (ws := [_, _]) ty30 rfl rfl rfl rfl rfl rfl rfl rfl ?_
    refine t_assign rfl rfl rfl ?_
    refine tr_nil ?_
    refine ac_ret ?_
    refine ⟨.inr rfl, _, ⟨_, _, _, _, _, rfl, rfl, rfl, .inl (retAgg ty30 rfl), ⟨_, _, rfl, rfl, rfl⟩⟩, ?_, ?_⟩
    · rw [show typeOf g t = typedE g t by simp only [typeOf]; rw [hb0]; rfl]
      (repeat' (first | exact VLe.rfl | exact VLes.rfl | exact VLes.nil | refine VLes.cons ?_ ?_ | refine VLe.agg ?_ | refine VLe.tup ?_ | exact VLe.own | exact VLe.full | exact VLe.nils | exact VLe.any | exact VLe.clo | exact VLe.fn | refine VLe.intE ?_ | refine VLe.boolE ?_ | refine VLe.sliceE ?_ | refine VLe.ownE ?_ | refine VLe.ownO ?_ | refine VLe.fullE ?_ | refine VLe.nilsE ?_))
    · (intro l o h; cases h)
end Go.AM

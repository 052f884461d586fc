/-
  Contracts: what goes through terms and rebuilds them.
-/
import Derived.Test.YtdbgmmeenljnoaaDoorAmP1
set_option linter.unusedVariables false
set_option linter.unusedSimpArgs false
set_option maxRecDepth 20000
namespace Go.AM
open Go Go.RowKit Go.Proofs

theorem OwnType_ev (t : Typ) (ht : t.sz ≤ 1000000) : Ev Tryd.prog GL 72 [vTy t] [] (vTy t) [] := by
  induction t using Typ.ind with
  | _ k l ih =>
  have hl := szTys_len l
  have hs : szTys l < 1000000 := by simp [Typ.sz] at ht; omega
  have hlen : l.length ≤ 1000000 := by omega
  show Ev _ _ _ [.agg [.d (.int .i64 k), .d (.slice (dTys l))]] [] (.agg [.d (.int .i64 k), .d (.slice (dTys l))]) []
  -- live at block 0: t2(ptr), t3(ptr)
  -- live at block 1: t2(ptr), t3(ptr), t10, t11, t12
  -- live at cond 0: t2(ptr), t3(ptr), t10, t11, t12
  -- live at loop 0: t2(ptr), t3(ptr), t10, t11, t12
  refine ev_of_body (N := 25) (ks := []) (ρ0 := [(0, _)]) (σ0 := []) (rs := [.cell 2 30]) Tryd.func72 rfl (by kernel_rfl) rfl rfl rfl rfl rfl rfl rfl rfl rfl rfl (fun E ι0 => ?_)
  refine ac_ts mixed ?_
  refine s_box 1 rfl rfl rfl rfl rfl ?_
  refine s_alloc 2 zer30 rfl rfl rfl rfl ?_
  refine tr_nil ?_
  refine ac_ts mixed ?_
  first | refine t_fieldAddr fld30_0 rfl rfl rfl ?_ | refine t_fieldAddr_c fld30_0 rfl rfl rfl rfl rfl ?_
  first | refine t_load1 ty3 rfl rfl rfl rfl rfl ?_ | refine t_load1c ty3 rfl rfl rfl rfl ?_
  refine s_build (res := [_, _]) zer30 plc30 rfl rfl rfl rfl rfl ?_
  refine s_alloc 3 zer30 rfl rfl rfl rfl ?_
  first | refine s_storeW ty30 rfl rfl rfl rfl rfl rfl rfl ?_ | refine s_store (ws := [_, _]) ty30 rfl rfl rfl rfl rfl rfl rfl rfl ?_
  refine tr_nil ?_
  refine ac_seq ?_
  refine ac_ts mixed ?_
  first | refine t_fieldAddr fld30_1 rfl rfl rfl ?_ | refine t_fieldAddr_c fld30_1 rfl rfl rfl rfl rfl ?_
  first | refine t_load1 ty27 rfl rfl rfl rfl rfl ?_ | refine t_load1c ty27 rfl rfl rfl rfl ?_
  refine t_len rfl sli27 rfl (by constructor) rfl rfl ?_
  refine t_move rfl rfl rfl ?_
  refine tr_nil ?_
  refine ac_weak (weak_row (L := 100) (l := 3) (j := 1) (sz := 2) (e := 30) (es := []) rfl rfl rfl VLe.nilfull rfl) ?_
  refine ac_range mixed ((dTys l).length) (fun i => [(2, .ptr 2 0), (3, .ptr 3 0), (10, .d (.slice (dTys l)))]) (fun i => [(2, some (.cells [.d (.int .i64 0), .d .nils] 30)), (3, some (.cells [.d (.int .i64 k), .own (dTys (l.take i)) 100] 30)), (100, some (.row (dTys (l.take i)).length 2 30))]) (fun i => [2, 3, 100]) (fun i => True) trivial ?_ (by first | omega | (simp only [dTys_len, dTms_len, dInts_len, List.length_append, List.length_cons, List.length_nil, List.length_take]; omega)) rfl (fun i => ⟨rfl, rfl⟩) (fun i hi hI => ?_) (fun hI => ?_)
  · (refine weak_of ?_ ?_ rfl rfl rfl <;> (repeat' (first | exact trivial | refine ⟨⟨_, rfl, ?_⟩, ?_⟩ | exact OLe.rfl | refine OLe.cells ?_ | exact VLe.rfl | exact VLes.rfl | exact VLes.nil | refine VLes.cons ?_ ?_ | refine VLe.agg ?_ | refine VLe.tup ?_ | exact VLe.own | exact VLe.full | exact VLe.nils | exact VLe.any | exact VLe.clo | exact VLe.fn | refine VLe.intE ?_ | refine VLe.boolE ?_ | refine VLe.sliceE ?_ | refine VLe.ownE ?_ | refine VLe.ownO ?_ | refine VLe.fullE ?_ | refine VLe.nilsE ?_ | refine OLe.row ?_)))
  · rw [dTys_len] at hi
    have hg : l[i]? = some l[i] := List.getElem?_eq_getElem hi
    have hget := dTys_get hg
    have hm := List.getElem_mem hi
    have hsz := szTys_mem hm
    refine ac_ts mixed ?_
    refine t_indexAddr sli27 rfl (by constructor) rfl (Int.natCast_nonneg _) hget rfl rfl rfl ?_
    first | refine t_load ty30 rfl rfl rfl rfl rfl rfl ?_ | refine s_loadWc ty30 rfl rfl rfl rfl ?_ | refine t_loadN (us := [_, _]) ty30 rfl rfl rfl rfl rfl rfl ?_ | refine t_loadNc (us := [_, _]) ty30 rfl rfl rfl rfl rfl ?_
    refine s_alloc 5 zer30 rfl rfl rfl rfl ?_
    first | refine s_storeW ty30 rfl rfl rfl rfl rfl rfl rfl ?_ | refine s_store (ws := [_, _]) ty30 rfl rfl rfl rfl rfl rfl rfl rfl ?_
    refine tr_nil ?_
    refine ac_d mixed ?_
    first | refine t_fieldAddr fld30_1 rfl rfl rfl ?_ | refine t_fieldAddr_c fld30_1 rfl rfl rfl rfl rfl ?_
    first | refine t_load1 ty27 rfl rfl rfl rfl rfl ?_ | refine t_load1c ty27 rfl rfl rfl rfl ?_
    first | refine t_load ty30 rfl rfl rfl rfl rfl rfl ?_ | refine s_loadWc ty30 rfl rfl rfl rfl ?_ | refine t_loadN (us := [_, _]) ty30 rfl rfl rfl rfl rfl rfl ?_ | refine t_loadNc (us := [_, _]) ty30 rfl rfl rfl rfl rfl ?_
    first | refine s_callF rfl .rfl (ih _ hm (by omega)) rfl rfl ?_ | refine s_callF rfl (by (repeat' (first | exact VLes.rfl | exact VLes.nil | exact VLe.rfl | refine VLes.cons ?_ ?_ | exact VLe.own | exact VLe.full | exact VLe.nils | refine VLe.agg ?_ | exact VLe.fullE (dTms_one _) | exact VLe.fullE (dTms_two _ _) | exact VLe.fullE (dTms_three _ _ _) | exact VLe.fullE (dTys_one _) | exact VLe.fullE (dTys_two _ _) | exact VLe.fullE (dTys_three _ _ _)))) (ih _ hm (by omega)) rfl rfl ?_
    first | refine t_buildSlice sli27 (Opds.ofL rfl) (.cons (.agg .rfl) .nil) (by intro x hx; simp only [List.mem_cons, List.not_mem_nil, or_false] at hx; rcases hx with rfl <;> rfl) rfl rfl rfl rfl ?_ | refine t_buildSlice sli27 (Opds.ofL rfl) (Elems.ofL rfl) (by intro x hx; simp only [List.mem_cons, List.not_mem_nil, or_false] at hx; rcases hx with rfl <;> rfl) rfl rfl rfl rfl ?_
    first | refine t_append_own rfl sli27 rfl rfl (by constructor) rfl (by (first | exact dTys_sz _ | exact dTms_sz _ | exact dInts_sz _ | exact sz_nil | exact sz_one rfl | exact sz_app (dTys_sz _) (sz_one rfl) | exact sz_app (dTms_sz _) (sz_one rfl))) (by (first | exact dTys_sz _ | exact dTms_sz _ | exact dInts_sz _ | exact sz_nil | exact sz_one rfl | exact sz_app (dTys_sz _) (sz_one rfl) | exact sz_app (dTms_sz _) (sz_one rfl))) (by (simp only [dTys_len, dTms_len, dInts_len, List.length_append, List.length_cons, List.length_nil, List.length_take]; omega)) rfl rfl rfl rfl ?_ | refine t_append rfl sli27 rfl (by first | exact VLe.nilfull | exact VLe.rfl) rfl (by constructor) (by (first | exact dTys_sz _ | exact dTms_sz _ | exact dInts_sz _ | exact sz_nil | exact sz_one rfl | exact sz_app (dTys_sz _) (sz_one rfl) | exact sz_app (dTms_sz _) (sz_one rfl))) (by (first | exact dTys_sz _ | exact dTms_sz _ | exact dInts_sz _ | exact sz_nil | exact sz_one rfl | exact sz_app (dTys_sz _) (sz_one rfl) | exact sz_app (dTms_sz _) (sz_one rfl))) (by (simp only [dTys_len, dTms_len, dInts_len, List.length_append, List.length_cons, List.length_nil, List.length_take]; omega)) rfl rfl rfl rfl rfl ?_
    first | refine t_fieldAddr fld30_1 rfl rfl rfl ?_ | refine t_fieldAddr_c fld30_1 rfl rfl rfl rfl rfl ?_
    first | refine s_storeW ty27 rfl rfl rfl rfl rfl rfl rfl ?_ | refine s_store (ws := [_, _]) ty27 rfl rfl rfl rfl rfl rfl rfl rfl ?_
    refine tr_nil ⟨by kernel_rfl, ?_⟩
    show _ ∧ Weak _ _ _
    refine ⟨trivial, ?_⟩
    rw [show dTys (l.take (i + 1)) = dTys (l.take i) ++ [dTy l[i]] by rw [take_succ_of hg, dTys_push]]
    (refine weak_of ?_ ?_ rfl rfl rfl <;> (repeat' (first | exact trivial | refine ⟨⟨_, rfl, ?_⟩, ?_⟩ | exact OLe.rfl | refine OLe.cells ?_ | exact VLe.rfl | exact VLes.rfl | exact VLes.nil | refine VLes.cons ?_ ?_ | refine VLe.agg ?_ | refine VLe.tup ?_ | exact VLe.own | exact VLe.full | exact VLe.nils | exact VLe.any | exact VLe.clo | exact VLe.fn | refine VLe.intE ?_ | refine VLe.boolE ?_ | refine VLe.sliceE ?_ | refine VLe.ownE ?_ | refine VLe.ownO ?_ | refine VLe.fullE ?_ | refine VLe.nilsE ?_ | refine OLe.row ?_)))
  · skip
    change AC _ _ _ _ _
    refine ac_ts mixed ?_
    first | refine t_load ty30 rfl rfl rfl rfl rfl rfl ?_ | refine s_loadWc ty30 rfl rfl rfl rfl ?_ | refine t_loadN (us := [_, _]) ty30 rfl rfl rfl rfl rfl rfl ?_ | refine t_loadNc (us := [_, _]) ty30 rfl rfl rfl rfl rfl ?_
    first | refine s_storeW ty30 rfl rfl rfl rfl rfl rfl rfl ?_ | refine s_store (ws := [_, _]) ty30 rfl rfl rfl rfl rfl rfl rfl rfl ?_
    refine tr_nil ?_
    refine ac_ret ?_
    refine ⟨.inr rfl, _, ⟨_, _, _, _, _, rfl, rfl, rfl, .inl (retAgg ty30 rfl), rfl⟩, ?_, ?_⟩
    · (repeat' (first | exact VLe.rfl | exact VLes.rfl | exact VLes.nil | refine VLes.cons ?_ ?_ | refine VLe.agg ?_ | refine VLe.tup ?_ | exact VLe.own | exact VLe.full | exact VLe.nils | exact VLe.any | exact VLe.clo | exact VLe.fn | refine VLe.intE ?_ | refine VLe.boolE ?_ | refine VLe.sliceE ?_ | refine VLe.ownE ?_ | refine VLe.ownO ?_ | refine VLe.fullE ?_ | refine VLe.nilsE ?_))
      rw [dTys_len, List.take_length]
    · (intro l o h; cases h)
theorem Var_ev (i : Int) : Ev Tryd.prog GL 60 [.d (.int .i64 i)] [] (vTm (.var i)) [] := by
  refine ev_of_body (N := 5) (ks := []) (ρ0 := [(0, _)]) (σ0 := []) (rs := [.cell 2 34]) Tryd.func60 rfl (by kernel_rfl) rfl rfl rfl rfl rfl rfl rfl rfl rfl rfl (fun E ι0 => ?_)
  refine ac_ts mixed ?_
  refine s_alloc 2 zer34 rfl rfl rfl rfl ?_
  refine tr_nil ?_
  refine ac_ts mixed ?_
  refine t_move rfl rfl rfl ?_
  refine s_build (res := [_, _, _, _, _]) zer34 plc34 rfl rfl rfl rfl rfl ?_
  first | refine s_storeW ty34 rfl rfl rfl rfl rfl rfl rfl ?_ | refine s_store (ws := [_, _, _, _, _]) ty34 rfl rfl rfl rfl rfl rfl rfl rfl ?_
  refine tr_nil ?_
  refine ac_ret ?_
  refine ⟨.inr rfl, _, ⟨_, _, _, _, _, rfl, rfl, rfl, .inl (retAgg ty34 rfl), rfl⟩, ?_, ?_⟩
  · (repeat' (first | exact VLe.rfl | exact VLes.rfl | exact VLes.nil | refine VLes.cons ?_ ?_ | refine VLe.agg ?_ | refine VLe.tup ?_ | exact VLe.own | exact VLe.full | exact VLe.nils | exact VLe.any | exact VLe.clo | exact VLe.fn | refine VLe.intE ?_ | refine VLe.boolE ?_ | refine VLe.sliceE ?_ | refine VLe.ownE ?_ | refine VLe.ownO ?_ | refine VLe.fullE ?_ | refine VLe.nilsE ?_))
  · (intro l o h; cases h)
theorem EachA1_ev {S : Type} {g : FuncId} (d : S → D) (t1 : Nat) (step : S → Int → Int → S)
    (hgo : ∀ s i b, Ev Tryd.prog GL g ([.d (.int .i64 i), .d (.int .i64 b)] ++ [.ptr 1003 0]) [(1003, .cells [.d (d (s))] t1)] (.tup []) [(1003, .cells [.d (d (step s i b))] t1)])
    (t : Trm) (ht : t.big ≤ 1000000) : ∀ (b : Int) (s : S), Ev Tryd.prog GL 65 ([vTm t, .d (.int .i64 b)] ++ [.ptr 1001 0, .ptr 1002 0])
      [(1001, .cells [.clo g [.ptr 1003 0]] 72), (1002, .cells [.clo 65 [.ptr 1001 0, .ptr 1002 0]] 85), (1003, .cells [.d (d (s))] t1)] (.tup [])
      [(1001, .cells [.clo g [.ptr 1003 0]] 72), (1002, .cells [.clo 65 [.ptr 1001 0, .ptr 1002 0]] 85), (1003, .cells [.d (d (t.each step b s))] t1)] := by
  induction t using Trm.ind with
  | _ k ix ty l ih =>
  intro b s
  have hl := bigTms_len l
  have hs : bigTms l < 1000000 := by simp [Trm.big] at ht; omega
  have hlen : l.length ≤ 1000000 := by omega
  show Ev _ _ _ [.agg [.d (.int .i64 k), .d (.int .i64 ix), .d (.int .i64 ty.kind), .d (.slice (dTys ty.args)), .d (.slice (dTms l))], .d (.int .i64 b), .ptr 1001 0, .ptr 1002 0] _ _
    [(1001, .cells [.clo g [.ptr 1003 0]] 72), (1002, .cells [.clo 65 [.ptr 1001 0, .ptr 1002 0]] 85), (1003, .cells [.d (d (eachs step l (if k == 2 then w64 (b + 1) else b) (if k == 1 then step s ix b else s)))] t1)]
  -- live at block 0: 
  -- live at block 1: t1, t3, t22, t23, t24
  -- live at cond 0: t1, t3, t4(ptr)
  -- live at cond 1: t1, t3, t4(ptr)
  -- live at cond 2: t1, t3, t22, t23, t24
  -- live at loop 0: t1, t3, t22, t23, t24
  refine ev_of_body (N := 33) (ks := _) (ρ0 := [(0, _), (1, _), (2, _), (3, _)]) (σ0 := _) (rs := []) Tryd.func65 rfl (by kernel_rfl) rfl rfl rfl rfl rfl rfl rfl rfl rfl rfl (fun E ι0 => ?_)
  refine ac_ts mixed ?_
  refine s_box 4 rfl rfl rfl rfl rfl ?_
  refine tr_nil ?_
  refine ac_join (fun (s1 : S) => ⟨[(4, .ptr 4 0), (1, .d (.int .i64 b)), (2, .ptr 1001 0), (3, .ptr 1002 0)], (4, some (.cells [.d (.int .i64 k), .d (.int .i64 ix), .d (.int .i64 ty.kind), .d (.slice (dTys ty.args)), .d (.slice (dTms l))] 34)) :: someO [(1001, .cells [.clo g [.ptr 1003 0]] 72), (1002, .cells [.clo 65 [.ptr 1001 0, .ptr 1002 0]] 85), (1003, .cells [.d (d (s1))] t1)], [4, 1001, 1002, 1003, 1004]⟩) (fun (s1 : S) => s1 = (if k == 1 then step s ix b else s)) ?_ (fun s1 hj => ?_)
  · refine ac_ts mixed ?_
    first | refine t_fieldAddr fld34_0 rfl rfl rfl ?_ | refine t_fieldAddr_c fld34_0 rfl rfl rfl rfl rfl ?_
    first | refine t_load1 ty3 rfl rfl rfl rfl rfl ?_ | refine t_load1c ty3 rfl rfl rfl rfl ?_
    refine t_bin rfl rfl .eql rfl rfl ?_
    refine tr_nil ?_
    refine ac_bool (fun hb0 => ?_) (fun hb0 => ?_)
    · refine ac_cond rfl (fun _ => ?_) (fun hb => by cases hb)
      refine ac_t mixed ?_
      first | refine t_load1 ty72 rfl rfl rfl rfl rfl ?_ | refine t_load1c ty72 rfl rfl rfl rfl ?_
      first | refine t_fieldAddr fld34_1 rfl rfl rfl ?_ | refine t_fieldAddr_c fld34_1 rfl rfl rfl rfl rfl ?_
      first | refine t_load1 ty3 rfl rfl rfl rfl rfl ?_ | refine t_load1c ty3 rfl rfl rfl rfl ?_
      refine t_move rfl rfl rfl ?_
      first | refine s_callS rfl (.inl rfl) rfl .rfl (hgo s ix b) rfl rfl rfl rfl rfl ?_ | refine s_callS rfl (.inl rfl) rfl (by (repeat' (first | exact VLes.rfl | exact VLes.nil | exact VLe.rfl | refine VLes.cons ?_ ?_ | exact VLe.own | exact VLe.full | exact VLe.nils | refine VLe.agg ?_ | exact VLe.fullE (dTms_one _) | exact VLe.fullE (dTms_two _ _) | exact VLe.fullE (dTms_three _ _ _) | exact VLe.fullE (dTys_one _) | exact VLe.fullE (dTys_two _ _) | exact VLe.fullE (dTys_three _ _ _)))) (hgo s ix b) rfl rfl rfl rfl rfl ?_
      refine tr_nil ?_
      show ∃ a, _ ∧ Weak _ _ _
      refine ⟨(if k == 1 then step s ix b else s), ?_, ?_⟩
      rotate_left
      · simp only [hb0, if_true, Bool.false_eq_true, if_false]
        (refine weak_of ?_ ?_ rfl rfl rfl <;> (repeat' (first | exact trivial | refine ⟨⟨_, rfl, ?_⟩, ?_⟩ | exact OLe.rfl | refine OLe.cells ?_ | exact VLe.rfl | exact VLes.rfl | exact VLes.nil | refine VLes.cons ?_ ?_ | refine VLe.agg ?_ | refine VLe.tup ?_ | exact VLe.own | exact VLe.full | exact VLe.nils | exact VLe.any | exact VLe.clo | exact VLe.fn | refine VLe.intE ?_ | refine VLe.boolE ?_ | refine VLe.sliceE ?_ | refine VLe.ownE ?_ | refine VLe.ownO ?_ | refine VLe.fullE ?_ | refine VLe.nilsE ?_ | refine OLe.row ?_)))
      · rfl
    · refine ac_cond rfl (fun hb => by cases hb) (fun _ => ?_)
      refine ac_skip ?_
      show ∃ a, _ ∧ Weak _ _ _
      refine ⟨(if k == 1 then step s ix b else s), ?_, ?_⟩
      rotate_left
      · simp only [hb0, if_true, Bool.false_eq_true, if_false]
        (refine weak_of ?_ ?_ rfl rfl rfl <;> (repeat' (first | exact trivial | refine ⟨⟨_, rfl, ?_⟩, ?_⟩ | exact OLe.rfl | refine OLe.cells ?_ | exact VLe.rfl | exact VLes.rfl | exact VLes.nil | refine VLes.cons ?_ ?_ | refine VLe.agg ?_ | refine VLe.tup ?_ | exact VLe.own | exact VLe.full | exact VLe.nils | exact VLe.any | exact VLe.clo | exact VLe.fn | refine VLe.intE ?_ | refine VLe.boolE ?_ | refine VLe.sliceE ?_ | refine VLe.ownE ?_ | refine VLe.ownO ?_ | refine VLe.fullE ?_ | refine VLe.nilsE ?_ | refine OLe.row ?_)))
      · rfl
  · subst hj
    refine ac_join (fun (b1 : Int) => ⟨[(4, .ptr 4 0), (1, .d (.int .i64 b1)), (2, .ptr 1001 0), (3, .ptr 1002 0)], (4, some (.cells [.d (.int .i64 k), .d (.int .i64 ix), .d (.int .i64 ty.kind), .d (.slice (dTys ty.args)), .d (.slice (dTms l))] 34)) :: someO [(1001, .cells [.clo g [.ptr 1003 0]] 72), (1002, .cells [.clo 65 [.ptr 1001 0, .ptr 1002 0]] 85), (1003, .cells [.d (d (if k == 1 then step s ix b else s))] t1)], [4, 1001, 1002, 1003, 1004]⟩) (fun (b1 : Int) => b1 = (if k == 2 then w64 (b + 1) else b)) ?_ (fun b1 hj => ?_)
    · refine ac_ts mixed ?_
      first | refine t_fieldAddr fld34_0 rfl rfl rfl ?_ | refine t_fieldAddr_c fld34_0 rfl rfl rfl rfl rfl ?_
      first | refine t_load1 ty3 rfl rfl rfl rfl rfl ?_ | refine t_load1c ty3 rfl rfl rfl rfl ?_
      refine t_bin rfl rfl .eql rfl rfl ?_
      refine tr_nil ?_
      refine ac_bool (fun hb1 => ?_) (fun hb1 => ?_)
      · refine ac_cond rfl (fun _ => ?_) (fun hb => by cases hb)
        refine ac_t mixed ?_
        refine t_move rfl rfl rfl ?_
        refine t_bin rfl rfl .add rfl rfl ?_
        refine t_assign rfl rfl rfl ?_
        refine tr_nil ?_
        show ∃ a, _ ∧ Weak _ _ _
        refine ⟨(if k == 2 then w64 (b + 1) else b), ?_, ?_⟩
        rotate_left
        · simp only [hb1, if_true, Bool.false_eq_true, if_false]
          (refine weak_of ?_ ?_ rfl rfl rfl <;> (repeat' (first | exact trivial | refine ⟨⟨_, rfl, ?_⟩, ?_⟩ | exact OLe.rfl | refine OLe.cells ?_ | exact VLe.rfl | exact VLes.rfl | exact VLes.nil | refine VLes.cons ?_ ?_ | refine VLe.agg ?_ | refine VLe.tup ?_ | exact VLe.own | exact VLe.full | exact VLe.nils | exact VLe.any | exact VLe.clo | exact VLe.fn | refine VLe.intE ?_ | refine VLe.boolE ?_ | refine VLe.sliceE ?_ | refine VLe.ownE ?_ | refine VLe.ownO ?_ | refine VLe.fullE ?_ | refine VLe.nilsE ?_ | refine OLe.row ?_)))
        · rfl
      · refine ac_cond rfl (fun hb => by cases hb) (fun _ => ?_)
        refine ac_skip ?_
        show ∃ a, _ ∧ Weak _ _ _
        refine ⟨(if k == 2 then w64 (b + 1) else b), ?_, ?_⟩
        rotate_left
        · simp only [hb1, if_true, Bool.false_eq_true, if_false]
          (refine weak_of ?_ ?_ rfl rfl rfl <;> (repeat' (first | exact trivial | refine ⟨⟨_, rfl, ?_⟩, ?_⟩ | exact OLe.rfl | refine OLe.cells ?_ | exact VLe.rfl | exact VLes.rfl | exact VLes.nil | refine VLes.cons ?_ ?_ | refine VLe.agg ?_ | refine VLe.tup ?_ | exact VLe.own | exact VLe.full | exact VLe.nils | exact VLe.any | exact VLe.clo | exact VLe.fn | refine VLe.intE ?_ | refine VLe.boolE ?_ | refine VLe.sliceE ?_ | refine VLe.ownE ?_ | refine VLe.ownO ?_ | refine VLe.fullE ?_ | refine VLe.nilsE ?_ | refine OLe.row ?_)))
        · rfl
    · subst hj
      refine ac_ts mixed ?_
      first | refine t_fieldAddr fld34_3 rfl rfl rfl ?_ | refine t_fieldAddr_c fld34_3 rfl rfl rfl rfl rfl ?_
      first | refine t_load1 ty32 rfl rfl rfl rfl rfl ?_ | refine t_load1c ty32 rfl rfl rfl rfl ?_
      refine t_len rfl sli32 rfl (by constructor) rfl rfl ?_
      refine t_move rfl rfl rfl ?_
      refine tr_nil ?_
      refine ac_range mixed ((dTms l).length) (fun i => [(1, .d (.int .i64 (if k == 2 then w64 (b + 1) else b))), (3, .ptr 1002 0), (22, .d (.slice (dTms l)))]) (fun i => someO [(1001, .cells [.clo g [.ptr 1003 0]] 72), (1002, .cells [.clo 65 [.ptr 1001 0, .ptr 1002 0]] 85), (1003, .cells [.d (d (eachs step (l.take i) (if k == 2 then w64 (b + 1) else b) (if k == 1 then step s ix b else s)))] t1)]) (fun i => [1001, 1002, 1003, 1004]) (fun i => True) trivial ?_ (by first | omega | (simp only [dTys_len, dTms_len, dInts_len, List.length_append, List.length_cons, List.length_nil, List.length_take]; omega)) rfl (fun i => ⟨rfl, rfl⟩) (fun i hi hI => ?_) (fun hI => ?_)
      · (refine weak_of ?_ ?_ rfl rfl rfl <;> (repeat' (first | exact trivial | refine ⟨⟨_, rfl, ?_⟩, ?_⟩ | exact OLe.rfl | refine OLe.cells ?_ | exact VLe.rfl | exact VLes.rfl | exact VLes.nil | refine VLes.cons ?_ ?_ | refine VLe.agg ?_ | refine VLe.tup ?_ | exact VLe.own | exact VLe.full | exact VLe.nils | exact VLe.any | exact VLe.clo | exact VLe.fn | refine VLe.intE ?_ | refine VLe.boolE ?_ | refine VLe.sliceE ?_ | refine VLe.ownE ?_ | refine VLe.ownO ?_ | refine VLe.fullE ?_ | refine VLe.nilsE ?_ | refine OLe.row ?_)))
      · rw [dTms_len] at hi
        have hg : l[i]? = some l[i] := List.getElem?_eq_getElem hi
        have hget := dTms_get hg
        have hm := List.getElem_mem hi
        have hsz := bigTms_mem hm
        refine ac_ts mixed ?_
        refine t_indexAddr sli32 rfl (by constructor) rfl (Int.natCast_nonneg _) hget rfl rfl rfl ?_
        first | refine t_load ty34 rfl rfl rfl rfl rfl rfl ?_ | refine s_loadWc ty34 rfl rfl rfl rfl ?_ | refine t_loadN (us := [_, _, _, _, _]) ty34 rfl rfl rfl rfl rfl rfl ?_ | refine t_loadNc (us := [_, _, _, _, _]) ty34 rfl rfl rfl rfl rfl ?_
        refine s_alloc 7 zer34 rfl rfl rfl rfl ?_
        first | refine s_storeW ty34 rfl rfl rfl rfl rfl rfl rfl ?_ | refine s_store (ws := [_, _, _, _, _]) ty34 rfl rfl rfl rfl rfl rfl rfl rfl ?_
        refine tr_nil ?_
        refine ac_t mixed ?_
        first | refine t_load1 ty85 rfl rfl rfl rfl rfl ?_ | refine t_load1c ty85 rfl rfl rfl rfl ?_
        first | refine t_load ty34 rfl rfl rfl rfl rfl rfl ?_ | refine s_loadWc ty34 rfl rfl rfl rfl ?_ | refine t_loadN (us := [_, _, _, _, _]) ty34 rfl rfl rfl rfl rfl rfl ?_ | refine t_loadNc (us := [_, _, _, _, _]) ty34 rfl rfl rfl rfl rfl ?_
        refine t_move rfl rfl rfl ?_
        first | refine s_callS rfl (.inl rfl) rfl .rfl (ih _ hm (by omega) _ _) rfl rfl rfl rfl rfl ?_ | refine s_callS rfl (.inl rfl) rfl (by (repeat' (first | exact VLes.rfl | exact VLes.nil | exact VLe.rfl | refine VLes.cons ?_ ?_ | exact VLe.own | exact VLe.full | exact VLe.nils | refine VLe.agg ?_ | exact VLe.fullE (dTms_one _) | exact VLe.fullE (dTms_two _ _) | exact VLe.fullE (dTms_three _ _ _) | exact VLe.fullE (dTys_one _) | exact VLe.fullE (dTys_two _ _) | exact VLe.fullE (dTys_three _ _ _)))) (ih _ hm (by omega) _ _) rfl rfl rfl rfl rfl ?_
        refine tr_nil ?_
        show _ ∧ Weak _ _ _
        refine ⟨trivial, ?_⟩
        rw [eachs_take step _ hg]
        (refine weak_of ?_ ?_ rfl rfl rfl <;> (repeat' (first | exact trivial | refine ⟨⟨_, rfl, ?_⟩, ?_⟩ | exact OLe.rfl | refine OLe.cells ?_ | exact VLe.rfl | exact VLes.rfl | exact VLes.nil | refine VLes.cons ?_ ?_ | refine VLe.agg ?_ | refine VLe.tup ?_ | exact VLe.own | exact VLe.full | exact VLe.nils | exact VLe.any | exact VLe.clo | exact VLe.fn | refine VLe.intE ?_ | refine VLe.boolE ?_ | refine VLe.sliceE ?_ | refine VLe.ownE ?_ | refine VLe.ownO ?_ | refine VLe.fullE ?_ | refine VLe.nilsE ?_ | refine OLe.row ?_)))
      · skip
        change Ends _ _ _ _ _ _ _
        refine ⟨.inl rfl, [], rfl, ?_, ?_⟩
        · (repeat' (first | exact VLe.rfl | exact VLes.rfl | exact VLes.nil | refine VLes.cons ?_ ?_ | refine VLe.agg ?_ | refine VLe.tup ?_ | exact VLe.own | exact VLe.full | exact VLe.nils | exact VLe.any | exact VLe.clo | exact VLe.fn | refine VLe.intE ?_ | refine VLe.boolE ?_ | refine VLe.sliceE ?_ | refine VLe.ownE ?_ | refine VLe.ownO ?_ | refine VLe.fullE ?_ | refine VLe.nilsE ?_))
        · rw [dTms_len, List.take_length]
          (refine sigTo_at ?_; (repeat' (first | exact trivial | refine ⟨⟨_, rfl, ?_⟩, ?_⟩ | exact OLe.rfl | refine OLe.cells ?_ | exact VLe.rfl | exact VLes.rfl | exact VLes.nil | refine VLes.cons ?_ ?_ | exact VLe.any | exact VLe.own | exact VLe.full | exact VLe.clo | exact VLe.fn | refine VLe.intE ?_ | refine VLe.boolE ?_ | refine VLe.sliceE ?_ | refine VLe.ownE ?_ | refine VLe.fullE ?_ | refine VLe.nilsE ?_)))
theorem EachA_ev {S : Type} {g : FuncId} (d : S → D) (t1 : Nat) (step : S → Int → Int → S)
    (hgo : ∀ s i b, Ev Tryd.prog GL g ([.d (.int .i64 i), .d (.int .i64 b)] ++ [.ptr 1003 0]) [(1003, .cells [.d (d (s))] t1)] (.tup []) [(1003, .cells [.d (d (step s i b))] t1)])
    (t : Trm) (ht : t.big ≤ 1000000) (s : S) : Ev Tryd.prog GL 44 ([vTm t, .clo g [.ptr 1003 0]] ++ []) [(1003, .cells [.d (d (s))] t1)] (.tup []) [(1003, .cells [.d (d (t.each step 0 s))] t1)] := by
  refine ev_of_body (N := 9) (ks := _) (ρ0 := [(0, _), (1, _)]) (σ0 := _) (rs := []) Tryd.func44 rfl (by kernel_rfl) rfl rfl rfl rfl rfl rfl rfl rfl rfl rfl (fun E ι0 => ?_)
  refine ac_ts mixed ?_
  refine s_box 2 rfl rfl rfl rfl rfl ?_
  refine s_box 1001 rfl rfl rfl rfl rfl ?_
  refine tr_nil ?_
  refine ac_ts mixed ?_
  refine s_alloc 1002 zer85 rfl rfl rfl rfl ?_
  refine tr_nil ?_
  refine ac_ts mixed ?_
  refine t_makeFunc (Opds.ofL rfl) rfl rfl ?_
  first | refine s_storeW ty85 rfl rfl rfl rfl rfl rfl rfl ?_ | refine s_store (ws := [_]) ty85 rfl rfl rfl rfl rfl rfl rfl rfl ?_
  refine tr_nil ?_
  refine ac_t mixed ?_
  first | refine t_load1 ty85 rfl rfl rfl rfl rfl ?_ | refine t_load1c ty85 rfl rfl rfl rfl ?_
  first | refine t_load ty34 rfl rfl rfl rfl rfl rfl ?_ | refine s_loadWc ty34 rfl rfl rfl rfl ?_ | refine t_loadN (us := [_, _, _, _, _]) ty34 rfl rfl rfl rfl rfl rfl ?_ | refine t_loadNc (us := [_, _, _, _, _]) ty34 rfl rfl rfl rfl rfl ?_
  first | refine s_callS rfl (.inl rfl) rfl .rfl (EachA1_ev d t1 step hgo t ht 0 s) rfl rfl rfl rfl rfl ?_ | refine s_callS rfl (.inl rfl) rfl (by (repeat' (first | exact VLes.rfl | exact VLes.nil | exact VLe.rfl | refine VLes.cons ?_ ?_ | exact VLe.own | exact VLe.full | exact VLe.nils | refine VLe.agg ?_ | exact VLe.fullE (dTms_one _) | exact VLe.fullE (dTms_two _ _) | exact VLe.fullE (dTms_three _ _ _) | exact VLe.fullE (dTys_one _) | exact VLe.fullE (dTys_two _ _) | exact VLe.fullE (dTys_three _ _ _)))) (EachA1_ev d t1 step hgo t ht 0 s) rfl rfl rfl rfl rfl ?_
  refine tr_nil ?_
  change Ends _ _ _ _ _ _ _
  refine ⟨.inl rfl, [], rfl, ?_, ?_⟩
  · (repeat' (first | exact VLe.rfl | exact VLes.rfl | exact VLes.nil | refine VLes.cons ?_ ?_ | refine VLe.agg ?_ | refine VLe.tup ?_ | exact VLe.own | exact VLe.full | exact VLe.nils | exact VLe.any | exact VLe.clo | exact VLe.fn | refine VLe.intE ?_ | refine VLe.boolE ?_ | refine VLe.sliceE ?_ | refine VLe.ownE ?_ | refine VLe.ownO ?_ | refine VLe.fullE ?_ | refine VLe.nilsE ?_))
  · (refine sigTo_at ?_; (repeat' (first | exact trivial | refine ⟨⟨_, rfl, ?_⟩, ?_⟩ | exact OLe.rfl | refine OLe.cells ?_ | exact VLe.rfl | exact VLes.rfl | exact VLes.nil | refine VLes.cons ?_ ?_ | exact VLe.any | exact VLe.own | exact VLe.full | exact VLe.clo | exact VLe.fn | refine VLe.intE ?_ | refine VLe.boolE ?_ | refine VLe.sliceE ?_ | refine VLe.ownE ?_ | refine VLe.fullE ?_ | refine VLe.nilsE ?_)))
theorem EachB1_ev {S : Type} {g : FuncId} (c : D) (t1 : Nat) (d : S → D) (t2 : Nat) (step : S → Int → Int → S)
    (hgo : ∀ s i b, Ev Tryd.prog GL g ([.d (.int .i64 i), .d (.int .i64 b)] ++ [.ptr 1003 0, .ptr 1004 0]) [(1003, .cells [.d c] t1), (1004, .cells [.d (d (s))] t2)] (.tup []) [(1003, .cells [.d c] t1), (1004, .cells [.d (d (step s i b))] t2)])
    (t : Trm) (ht : t.big ≤ 1000000) : ∀ (b : Int) (s : S), Ev Tryd.prog GL 65 ([vTm t, .d (.int .i64 b)] ++ [.ptr 1001 0, .ptr 1002 0])
      [(1001, .cells [.clo g [.ptr 1003 0, .ptr 1004 0]] 72), (1002, .cells [.clo 65 [.ptr 1001 0, .ptr 1002 0]] 85), (1003, .cells [.d c] t1), (1004, .cells [.d (d (s))] t2)] (.tup [])
      [(1001, .cells [.clo g [.ptr 1003 0, .ptr 1004 0]] 72), (1002, .cells [.clo 65 [.ptr 1001 0, .ptr 1002 0]] 85), (1003, .cells [.d c] t1), (1004, .cells [.d (d (t.each step b s))] t2)] := by
  induction t using Trm.ind with
  | _ k ix ty l ih =>
  intro b s
  have hl := bigTms_len l
  have hs : bigTms l < 1000000 := by simp [Trm.big] at ht; omega
  have hlen : l.length ≤ 1000000 := by omega
  show Ev _ _ _ [.agg [.d (.int .i64 k), .d (.int .i64 ix), .d (.int .i64 ty.kind), .d (.slice (dTys ty.args)), .d (.slice (dTms l))], .d (.int .i64 b), .ptr 1001 0, .ptr 1002 0] _ _
    [(1001, .cells [.clo g [.ptr 1003 0, .ptr 1004 0]] 72), (1002, .cells [.clo 65 [.ptr 1001 0, .ptr 1002 0]] 85), (1003, .cells [.d c] t1), (1004, .cells [.d (d (eachs step l (if k == 2 then w64 (b + 1) else b) (if k == 1 then step s ix b else s)))] t2)]
  -- live at block 0: 
  -- live at block 1: t1, t3, t22, t23, t24
  -- live at cond 0: t1, t3, t4(ptr)
  -- live at cond 1: t1, t3, t4(ptr)
  -- live at cond 2: t1, t3, t22, t23, t24
  -- live at loop 0: t1, t3, t22, t23, t24
  refine ev_of_body (N := 33) (ks := _) (ρ0 := [(0, _), (1, _), (2, _), (3, _)]) (σ0 := _) (rs := []) Tryd.func65 rfl (by kernel_rfl) rfl rfl rfl rfl rfl rfl rfl rfl rfl rfl (fun E ι0 => ?_)
  refine ac_ts mixed ?_
  refine s_box 4 rfl rfl rfl rfl rfl ?_
  refine tr_nil ?_
  refine ac_join (fun (s1 : S) => ⟨[(4, .ptr 4 0), (1, .d (.int .i64 b)), (2, .ptr 1001 0), (3, .ptr 1002 0)], (4, some (.cells [.d (.int .i64 k), .d (.int .i64 ix), .d (.int .i64 ty.kind), .d (.slice (dTys ty.args)), .d (.slice (dTms l))] 34)) :: someO [(1001, .cells [.clo g [.ptr 1003 0, .ptr 1004 0]] 72), (1002, .cells [.clo 65 [.ptr 1001 0, .ptr 1002 0]] 85), (1003, .cells [.d c] t1), (1004, .cells [.d (d (s1))] t2)], [4, 1001, 1002, 1003, 1004]⟩) (fun (s1 : S) => s1 = (if k == 1 then step s ix b else s)) ?_ (fun s1 hj => ?_)
  · refine ac_ts mixed ?_
    first | refine t_fieldAddr fld34_0 rfl rfl rfl ?_ | refine t_fieldAddr_c fld34_0 rfl rfl rfl rfl rfl ?_
    first | refine t_load1 ty3 rfl rfl rfl rfl rfl ?_ | refine t_load1c ty3 rfl rfl rfl rfl ?_
    refine t_bin rfl rfl .eql rfl rfl ?_
    refine tr_nil ?_
    refine ac_bool (fun hb0 => ?_) (fun hb0 => ?_)
    · refine ac_cond rfl (fun _ => ?_) (fun hb => by cases hb)
      refine ac_t mixed ?_
      first | refine t_load1 ty72 rfl rfl rfl rfl rfl ?_ | refine t_load1c ty72 rfl rfl rfl rfl ?_
      first | refine t_fieldAddr fld34_1 rfl rfl rfl ?_ | refine t_fieldAddr_c fld34_1 rfl rfl rfl rfl rfl ?_
      first | refine t_load1 ty3 rfl rfl rfl rfl rfl ?_ | refine t_load1c ty3 rfl rfl rfl rfl ?_
      refine t_move rfl rfl rfl ?_
      first | refine s_callS rfl (.inl rfl) rfl .rfl (hgo s ix b) rfl rfl rfl rfl rfl ?_ | refine s_callS rfl (.inl rfl) rfl (by (repeat' (first | exact VLes.rfl | exact VLes.nil | exact VLe.rfl | refine VLes.cons ?_ ?_ | exact VLe.own | exact VLe.full | exact VLe.nils | refine VLe.agg ?_ | exact VLe.fullE (dTms_one _) | exact VLe.fullE (dTms_two _ _) | exact VLe.fullE (dTms_three _ _ _) | exact VLe.fullE (dTys_one _) | exact VLe.fullE (dTys_two _ _) | exact VLe.fullE (dTys_three _ _ _)))) (hgo s ix b) rfl rfl rfl rfl rfl ?_
      refine tr_nil ?_
      show ∃ a, _ ∧ Weak _ _ _
      refine ⟨(if k == 1 then step s ix b else s), ?_, ?_⟩
      rotate_left
      · simp only [hb0, if_true, Bool.false_eq_true, if_false]
        (refine weak_of ?_ ?_ rfl rfl rfl <;> (repeat' (first | exact trivial | refine ⟨⟨_, rfl, ?_⟩, ?_⟩ | exact OLe.rfl | refine OLe.cells ?_ | exact VLe.rfl | exact VLes.rfl | exact VLes.nil | refine VLes.cons ?_ ?_ | refine VLe.agg ?_ | refine VLe.tup ?_ | exact VLe.own | exact VLe.full | exact VLe.nils | exact VLe.any | exact VLe.clo | exact VLe.fn | refine VLe.intE ?_ | refine VLe.boolE ?_ | refine VLe.sliceE ?_ | refine VLe.ownE ?_ | refine VLe.ownO ?_ | refine VLe.fullE ?_ | refine VLe.nilsE ?_ | refine OLe.row ?_)))
      · rfl
    · refine ac_cond rfl (fun hb => by cases hb) (fun _ => ?_)
      refine ac_skip ?_
      show ∃ a, _ ∧ Weak _ _ _
      refine ⟨(if k == 1 then step s ix b else s), ?_, ?_⟩
      rotate_left
      · simp only [hb0, if_true, Bool.false_eq_true, if_false]
        (refine weak_of ?_ ?_ rfl rfl rfl <;> (repeat' (first | exact trivial | refine ⟨⟨_, rfl, ?_⟩, ?_⟩ | exact OLe.rfl | refine OLe.cells ?_ | exact VLe.rfl | exact VLes.rfl | exact VLes.nil | refine VLes.cons ?_ ?_ | refine VLe.agg ?_ | refine VLe.tup ?_ | exact VLe.own | exact VLe.full | exact VLe.nils | exact VLe.any | exact VLe.clo | exact VLe.fn | refine VLe.intE ?_ | refine VLe.boolE ?_ | refine VLe.sliceE ?_ | refine VLe.ownE ?_ | refine VLe.ownO ?_ | refine VLe.fullE ?_ | refine VLe.nilsE ?_ | refine OLe.row ?_)))
      · rfl
  · subst hj
    refine ac_join (fun (b1 : Int) => ⟨[(4, .ptr 4 0), (1, .d (.int .i64 b1)), (2, .ptr 1001 0), (3, .ptr 1002 0)], (4, some (.cells [.d (.int .i64 k), .d (.int .i64 ix), .d (.int .i64 ty.kind), .d (.slice (dTys ty.args)), .d (.slice (dTms l))] 34)) :: someO [(1001, .cells [.clo g [.ptr 1003 0, .ptr 1004 0]] 72), (1002, .cells [.clo 65 [.ptr 1001 0, .ptr 1002 0]] 85), (1003, .cells [.d c] t1), (1004, .cells [.d (d (if k == 1 then step s ix b else s))] t2)], [4, 1001, 1002, 1003, 1004]⟩) (fun (b1 : Int) => b1 = (if k == 2 then w64 (b + 1) else b)) ?_ (fun b1 hj => ?_)
    · refine ac_ts mixed ?_
      first | refine t_fieldAddr fld34_0 rfl rfl rfl ?_ | refine t_fieldAddr_c fld34_0 rfl rfl rfl rfl rfl ?_
      first | refine t_load1 ty3 rfl rfl rfl rfl rfl ?_ | refine t_load1c ty3 rfl rfl rfl rfl ?_
      refine t_bin rfl rfl .eql rfl rfl ?_
      refine tr_nil ?_
      refine ac_bool (fun hb1 => ?_) (fun hb1 => ?_)
      · refine ac_cond rfl (fun _ => ?_) (fun hb => by cases hb)
        refine ac_t mixed ?_
        refine t_move rfl rfl rfl ?_
        refine t_bin rfl rfl .add rfl rfl ?_
        refine t_assign rfl rfl rfl ?_
        refine tr_nil ?_
        show ∃ a, _ ∧ Weak _ _ _
        refine ⟨(if k == 2 then w64 (b + 1) else b), ?_, ?_⟩
        rotate_left
        · simp only [hb1, if_true, Bool.false_eq_true, if_false]
          (refine weak_of ?_ ?_ rfl rfl rfl <;> (repeat' (first | exact trivial | refine ⟨⟨_, rfl, ?_⟩, ?_⟩ | exact OLe.rfl | refine OLe.cells ?_ | exact VLe.rfl | exact VLes.rfl | exact VLes.nil | refine VLes.cons ?_ ?_ | refine VLe.agg ?_ | refine VLe.tup ?_ | exact VLe.own | exact VLe.full | exact VLe.nils | exact VLe.any | exact VLe.clo | exact VLe.fn | refine VLe.intE ?_ | refine VLe.boolE ?_ | refine VLe.sliceE ?_ | refine VLe.ownE ?_ | refine VLe.ownO ?_ | refine VLe.fullE ?_ | refine VLe.nilsE ?_ | refine OLe.row ?_)))
        · rfl
      · refine ac_cond rfl (fun hb => by cases hb) (fun _ => ?_)
        refine ac_skip ?_
        show ∃ a, _ ∧ Weak _ _ _
        refine ⟨(if k == 2 then w64 (b + 1) else b), ?_, ?_⟩
        rotate_left
        · simp only [hb1, if_true, Bool.false_eq_true, if_false]
          (refine weak_of ?_ ?_ rfl rfl rfl <;> (repeat' (first | exact trivial | refine ⟨⟨_, rfl, ?_⟩, ?_⟩ | exact OLe.rfl | refine OLe.cells ?_ | exact VLe.rfl | exact VLes.rfl | exact VLes.nil | refine VLes.cons ?_ ?_ | refine VLe.agg ?_ | refine VLe.tup ?_ | exact VLe.own | exact VLe.full | exact VLe.nils | exact VLe.any | exact VLe.clo | exact VLe.fn | refine VLe.intE ?_ | refine VLe.boolE ?_ | refine VLe.sliceE ?_ | refine VLe.ownE ?_ | refine VLe.ownO ?_ | refine VLe.fullE ?_ | refine VLe.nilsE ?_ | refine OLe.row ?_)))
        · rfl
    · subst hj
      refine ac_ts mixed ?_
      first | refine t_fieldAddr fld34_3 rfl rfl rfl ?_ | refine t_fieldAddr_c fld34_3 rfl rfl rfl rfl rfl ?_
      first | refine t_load1 ty32 rfl rfl rfl rfl rfl ?_ | refine t_load1c ty32 rfl rfl rfl rfl ?_
      refine t_len rfl sli32 rfl (by constructor) rfl rfl ?_
      refine t_move rfl rfl rfl ?_
      refine tr_nil ?_
      refine ac_range mixed ((dTms l).length) (fun i => [(1, .d (.int .i64 (if k == 2 then w64 (b + 1) else b))), (3, .ptr 1002 0), (22, .d (.slice (dTms l)))]) (fun i => someO [(1001, .cells [.clo g [.ptr 1003 0, .ptr 1004 0]] 72), (1002, .cells [.clo 65 [.ptr 1001 0, .ptr 1002 0]] 85), (1003, .cells [.d c] t1), (1004, .cells [.d (d (eachs step (l.take i) (if k == 2 then w64 (b + 1) else b) (if k == 1 then step s ix b else s)))] t2)]) (fun i => [1001, 1002, 1003, 1004]) (fun i => True) trivial ?_ (by first | omega | (simp only [dTys_len, dTms_len, dInts_len, List.length_append, List.length_cons, List.length_nil, List.length_take]; omega)) rfl (fun i => ⟨rfl, rfl⟩) (fun i hi hI => ?_) (fun hI => ?_)
      · (refine weak_of ?_ ?_ rfl rfl rfl <;> (repeat' (first | exact trivial | refine ⟨⟨_, rfl, ?_⟩, ?_⟩ | exact OLe.rfl | refine OLe.cells ?_ | exact VLe.rfl | exact VLes.rfl | exact VLes.nil | refine VLes.cons ?_ ?_ | refine VLe.agg ?_ | refine VLe.tup ?_ | exact VLe.own | exact VLe.full | exact VLe.nils | exact VLe.any | exact VLe.clo | exact VLe.fn | refine VLe.intE ?_ | refine VLe.boolE ?_ | refine VLe.sliceE ?_ | refine VLe.ownE ?_ | refine VLe.ownO ?_ | refine VLe.fullE ?_ | refine VLe.nilsE ?_ | refine OLe.row ?_)))
      · rw [dTms_len] at hi
        have hg : l[i]? = some l[i] := List.getElem?_eq_getElem hi
        have hget := dTms_get hg
        have hm := List.getElem_mem hi
        have hsz := bigTms_mem hm
        refine ac_ts mixed ?_
        refine t_indexAddr sli32 rfl (by constructor) rfl (Int.natCast_nonneg _) hget rfl rfl rfl ?_
        first | refine t_load ty34 rfl rfl rfl rfl rfl rfl ?_ | refine s_loadWc ty34 rfl rfl rfl rfl ?_ | refine t_loadN (us := [_, _, _, _, _]) ty34 rfl rfl rfl rfl rfl rfl ?_ | refine t_loadNc (us := [_, _, _, _, _]) ty34 rfl rfl rfl rfl rfl ?_
        refine s_alloc 7 zer34 rfl rfl rfl rfl ?_
        first | refine s_storeW ty34 rfl rfl rfl rfl rfl rfl rfl ?_ | refine s_store (ws := [_, _, _, _, _]) ty34 rfl rfl rfl rfl rfl rfl rfl rfl ?_
        refine tr_nil ?_
        refine ac_t mixed ?_
        first | refine t_load1 ty85 rfl rfl rfl rfl rfl ?_ | refine t_load1c ty85 rfl rfl rfl rfl ?_
        first | refine t_load ty34 rfl rfl rfl rfl rfl rfl ?_ | refine s_loadWc ty34 rfl rfl rfl rfl ?_ | refine t_loadN (us := [_, _, _, _, _]) ty34 rfl rfl rfl rfl rfl rfl ?_ | refine t_loadNc (us := [_, _, _, _, _]) ty34 rfl rfl rfl rfl rfl ?_
        refine t_move rfl rfl rfl ?_
        first | refine s_callS rfl (.inl rfl) rfl .rfl (ih _ hm (by omega) _ _) rfl rfl rfl rfl rfl ?_ | refine s_callS rfl (.inl rfl) rfl (by (repeat' (first | exact VLes.rfl | exact VLes.nil | exact VLe.rfl | refine VLes.cons ?_ ?_ | exact VLe.own | exact VLe.full | exact VLe.nils | refine VLe.agg ?_ | exact VLe.fullE (dTms_one _) | exact VLe.fullE (dTms_two _ _) | exact VLe.fullE (dTms_three _ _ _) | exact VLe.fullE (dTys_one _) | exact VLe.fullE (dTys_two _ _) | exact VLe.fullE (dTys_three _ _ _)))) (ih _ hm (by omega) _ _) rfl rfl rfl rfl rfl ?_
        refine tr_nil ?_
        show _ ∧ Weak _ _ _
        refine ⟨trivial, ?_⟩
        rw [eachs_take step _ hg]
        (refine weak_of ?_ ?_ rfl rfl rfl <;> (repeat' (first | exact trivial | refine ⟨⟨_, rfl, ?_⟩, ?_⟩ | exact OLe.rfl | refine OLe.cells ?_ | exact VLe.rfl | exact VLes.rfl | exact VLes.nil | refine VLes.cons ?_ ?_ | refine VLe.agg ?_ | refine VLe.tup ?_ | exact VLe.own | exact VLe.full | exact VLe.nils | exact VLe.any | exact VLe.clo | exact VLe.fn | refine VLe.intE ?_ | refine VLe.boolE ?_ | refine VLe.sliceE ?_ | refine VLe.ownE ?_ | refine VLe.ownO ?_ | refine VLe.fullE ?_ | refine VLe.nilsE ?_ | refine OLe.row ?_)))
      · skip
        change Ends _ _ _ _ _ _ _
        refine ⟨.inl rfl, [], rfl, ?_, ?_⟩
        · (repeat' (first | exact VLe.rfl | exact VLes.rfl | exact VLes.nil | refine VLes.cons ?_ ?_ | refine VLe.agg ?_ | refine VLe.tup ?_ | exact VLe.own | exact VLe.full | exact VLe.nils | exact VLe.any | exact VLe.clo | exact VLe.fn | refine VLe.intE ?_ | refine VLe.boolE ?_ | refine VLe.sliceE ?_ | refine VLe.ownE ?_ | refine VLe.ownO ?_ | refine VLe.fullE ?_ | refine VLe.nilsE ?_))
        · rw [dTms_len, List.take_length]
          (refine sigTo_at ?_; (repeat' (first | exact trivial | refine ⟨⟨_, rfl, ?_⟩, ?_⟩ | exact OLe.rfl | refine OLe.cells ?_ | exact VLe.rfl | exact VLes.rfl | exact VLes.nil | refine VLes.cons ?_ ?_ | exact VLe.any | exact VLe.own | exact VLe.full | exact VLe.clo | exact VLe.fn | refine VLe.intE ?_ | refine VLe.boolE ?_ | refine VLe.sliceE ?_ | refine VLe.ownE ?_ | refine VLe.fullE ?_ | refine VLe.nilsE ?_)))
theorem EachB_ev {S : Type} {g : FuncId} (c : D) (t1 : Nat) (d : S → D) (t2 : Nat) (step : S → Int → Int → S)
    (hgo : ∀ s i b, Ev Tryd.prog GL g ([.d (.int .i64 i), .d (.int .i64 b)] ++ [.ptr 1003 0, .ptr 1004 0]) [(1003, .cells [.d c] t1), (1004, .cells [.d (d (s))] t2)] (.tup []) [(1003, .cells [.d c] t1), (1004, .cells [.d (d (step s i b))] t2)])
    (t : Trm) (ht : t.big ≤ 1000000) (s : S) : Ev Tryd.prog GL 44 ([vTm t, .clo g [.ptr 1003 0, .ptr 1004 0]] ++ []) [(1003, .cells [.d c] t1), (1004, .cells [.d (d (s))] t2)] (.tup []) [(1003, .cells [.d c] t1), (1004, .cells [.d (d (t.each step 0 s))] t2)] := by
  refine ev_of_body (N := 9) (ks := _) (ρ0 := [(0, _), (1, _)]) (σ0 := _) (rs := []) Tryd.func44 rfl (by kernel_rfl) rfl rfl rfl rfl rfl rfl rfl rfl rfl rfl (fun E ι0 => ?_)
  refine ac_ts mixed ?_
  refine s_box 2 rfl rfl rfl rfl rfl ?_
  refine s_box 1001 rfl rfl rfl rfl rfl ?_
  refine tr_nil ?_
  refine ac_ts mixed ?_
  refine s_alloc 1002 zer85 rfl rfl rfl rfl ?_
  refine tr_nil ?_
  refine ac_ts mixed ?_
  refine t_makeFunc (Opds.ofL rfl) rfl rfl ?_
  first | refine s_storeW ty85 rfl rfl rfl rfl rfl rfl rfl ?_ | refine s_store (ws := [_]) ty85 rfl rfl rfl rfl rfl rfl rfl rfl ?_
  refine tr_nil ?_
  refine ac_t mixed ?_
  first | refine t_load1 ty85 rfl rfl rfl rfl rfl ?_ | refine t_load1c ty85 rfl rfl rfl rfl ?_
  first | refine t_load ty34 rfl rfl rfl rfl rfl rfl ?_ | refine s_loadWc ty34 rfl rfl rfl rfl ?_ | refine t_loadN (us := [_, _, _, _, _]) ty34 rfl rfl rfl rfl rfl rfl ?_ | refine t_loadNc (us := [_, _, _, _, _]) ty34 rfl rfl rfl rfl rfl ?_
  first | refine s_callS rfl (.inl rfl) rfl .rfl (EachB1_ev c t1 d t2 step hgo t ht 0 s) rfl rfl rfl rfl rfl ?_ | refine s_callS rfl (.inl rfl) rfl (by (repeat' (first | exact VLes.rfl | exact VLes.nil | exact VLe.rfl | refine VLes.cons ?_ ?_ | exact VLe.own | exact VLe.full | exact VLe.nils | refine VLe.agg ?_ | exact VLe.fullE (dTms_one _) | exact VLe.fullE (dTms_two _ _) | exact VLe.fullE (dTms_three _ _ _) | exact VLe.fullE (dTys_one _) | exact VLe.fullE (dTys_two _ _) | exact VLe.fullE (dTys_three _ _ _)))) (EachB1_ev c t1 d t2 step hgo t ht 0 s) rfl rfl rfl rfl rfl ?_
  refine tr_nil ?_
  change Ends _ _ _ _ _ _ _
  refine ⟨.inl rfl, [], rfl, ?_, ?_⟩
  · (repeat' (first | exact VLe.rfl | exact VLes.rfl | exact VLes.nil | refine VLes.cons ?_ ?_ | refine VLe.agg ?_ | refine VLe.tup ?_ | exact VLe.own | exact VLe.full | exact VLe.nils | exact VLe.any | exact VLe.clo | exact VLe.fn | refine VLe.intE ?_ | refine VLe.boolE ?_ | refine VLe.sliceE ?_ | refine VLe.ownE ?_ | refine VLe.ownO ?_ | refine VLe.fullE ?_ | refine VLe.nilsE ?_))
  · (refine sigTo_at ?_; (repeat' (first | exact trivial | refine ⟨⟨_, rfl, ?_⟩, ?_⟩ | exact OLe.rfl | refine OLe.cells ?_ | exact VLe.rfl | exact VLes.rfl | exact VLes.nil | refine VLes.cons ?_ ?_ | exact VLe.any | exact VLe.own | exact VLe.full | exact VLe.clo | exact VLe.fn | refine VLe.intE ?_ | refine VLe.boolE ?_ | refine VLe.sliceE ?_ | refine VLe.ownE ?_ | refine VLe.fullE ?_ | refine VLe.nilsE ?_)))
theorem Near1_ev (t1 : Nat) (s : Bool) (i b : Int) : Ev Tryd.prog GL 56 ([.d (.int .i64 i), .d (.int .i64 b)] ++ [.ptr 1003 0]) [(1003, .cells [.d (.bool s)] 4)] (.tup []) [(1003, .cells [.d (.bool (s && decide (i ≤ 536870912)))] 4)] := by
  refine ev_of_body (N := 10) (ks := _) (ρ0 := [(0, _), (1, _), (2, _)]) (σ0 := _) (rs := []) Tryd.func56 rfl (by kernel_rfl) rfl rfl rfl rfl rfl rfl rfl rfl rfl rfl (fun E ι0 => ?_)
  refine ac_t mixed ?_
  first | refine t_load1 ty4 rfl rfl rfl rfl rfl ?_ | refine t_load1c ty4 rfl rfl rfl rfl ?_
  refine t_move rfl rfl rfl ?_
  refine tr_bool (fun h6 => ?_) (fun h6 => ?_)
  · refine t_move rfl ⟨_, rfl, .inl ⟨_, rfl, rfl⟩⟩ rfl ?_
    refine t_bin rfl rfl .leq ⟨_, rfl, .inl ⟨_, rfl, rfl⟩⟩ rfl ?_
    refine t_pick_t rfl rfl rfl rfl rfl ?_
    first | refine s_storeW ty4 rfl rfl rfl rfl rfl rfl rfl ?_ | refine s_store (ws := [_]) ty4 rfl rfl rfl rfl rfl rfl rfl rfl ?_
    refine tr_nil ?_
    change Ends _ _ _ _ _ _ _
    refine ⟨.inl rfl, [], rfl, ?_, ?_⟩
    · (repeat' (first | exact VLe.rfl | exact VLes.rfl | exact VLes.nil | refine VLes.cons ?_ ?_ | refine VLe.agg ?_ | refine VLe.tup ?_ | exact VLe.own | exact VLe.full | exact VLe.nils | exact VLe.any | exact VLe.clo | exact VLe.fn | refine VLe.intE ?_ | refine VLe.boolE ?_ | refine VLe.sliceE ?_ | refine VLe.ownE ?_ | refine VLe.ownO ?_ | refine VLe.fullE ?_ | refine VLe.nilsE ?_))
    · simp only [h6, Bool.true_and, Bool.false_and]
      (refine sigTo_at ?_; (repeat' (first | exact trivial | refine ⟨⟨_, rfl, ?_⟩, ?_⟩ | exact OLe.rfl | refine OLe.cells ?_ | exact VLe.rfl | exact VLes.rfl | exact VLes.nil | refine VLes.cons ?_ ?_ | exact VLe.any | exact VLe.own | exact VLe.full | exact VLe.clo | exact VLe.fn | refine VLe.intE ?_ | refine VLe.boolE ?_ | refine VLe.sliceE ?_ | refine VLe.ownE ?_ | refine VLe.fullE ?_ | refine VLe.nilsE ?_)))
  · refine t_skip ⟨_, rfl, .inl ⟨_, rfl, rfl⟩⟩ rfl ?_
    refine t_skip ⟨_, rfl, .inl ⟨_, rfl, rfl⟩⟩ rfl ?_
    refine t_pick_f rfl rfl rfl rfl rfl ?_
    first | refine s_storeW ty4 rfl rfl rfl rfl rfl rfl rfl ?_ | refine s_store (ws := [_]) ty4 rfl rfl rfl rfl rfl rfl rfl rfl ?_
    refine tr_nil ?_
    change Ends _ _ _ _ _ _ _
    refine ⟨.inl rfl, [], rfl, ?_, ?_⟩
    · (repeat' (first | exact VLe.rfl | exact VLes.rfl | exact VLes.nil | refine VLes.cons ?_ ?_ | refine VLe.agg ?_ | refine VLe.tup ?_ | exact VLe.own | exact VLe.full | exact VLe.nils | exact VLe.any | exact VLe.clo | exact VLe.fn | refine VLe.intE ?_ | refine VLe.boolE ?_ | refine VLe.sliceE ?_ | refine VLe.ownE ?_ | refine VLe.ownO ?_ | refine VLe.fullE ?_ | refine VLe.nilsE ?_))
    · simp only [h6, Bool.true_and, Bool.false_and]
      (refine sigTo_at ?_; (repeat' (first | exact trivial | refine ⟨⟨_, rfl, ?_⟩, ?_⟩ | exact OLe.rfl | refine OLe.cells ?_ | exact VLe.rfl | exact VLes.rfl | exact VLes.nil | refine VLes.cons ?_ ?_ | exact VLe.any | exact VLe.own | exact VLe.full | exact VLe.clo | exact VLe.fn | refine VLe.intE ?_ | refine VLe.boolE ?_ | refine VLe.sliceE ?_ | refine VLe.ownE ?_ | refine VLe.fullE ?_ | refine VLe.nilsE ?_)))
theorem Near_ev (t : Trm) (ht : t.big ≤ 1000000) : Ev Tryd.prog GL 37 [vTm t] [] (.d (.bool t.near)) [] := by
  refine ev_of_body (N := 8) (ks := []) (ρ0 := [(0, _)]) (σ0 := []) (rs := [.tmp 2]) Tryd.func37 rfl (by kernel_rfl) rfl rfl rfl rfl rfl rfl rfl rfl rfl rfl (fun E ι0 => ?_)
  refine ac_ts mixed ?_
  refine s_box 1 rfl rfl rfl rfl rfl ?_
  refine t_assign rfl rfl rfl ?_
  refine tr_nil ?_
  refine ac_ts mixed ?_
  refine s_alloc 1003 zer4 rfl rfl rfl rfl ?_
  first | refine s_storeW ty4 rfl rfl rfl rfl rfl rfl rfl ?_ | refine s_store (ws := [_]) ty4 rfl rfl rfl rfl rfl rfl rfl rfl ?_
  refine tr_nil ?_
  refine ac_ts mixed ?_
  first | refine t_load ty34 rfl rfl rfl rfl rfl rfl ?_ | refine s_loadWc ty34 rfl rfl rfl rfl ?_ | refine t_loadN (us := [_, _, _, _, _]) ty34 rfl rfl rfl rfl rfl rfl ?_ | refine t_loadNc (us := [_, _, _, _, _]) ty34 rfl rfl rfl rfl rfl ?_
  refine t_makeFunc (Opds.ofL rfl) rfl rfl ?_
  first | refine s_callSF rfl .rfl (EachA_ev .bool 4 (fun s i _ => s && decide (i ≤ 536870912)) (fun s i b => Near1_ev 0 s i b) t ht true) rfl rfl rfl rfl rfl ?_ | refine s_callSF rfl (by (repeat' (first | exact VLes.rfl | exact VLes.nil | exact VLe.rfl | refine VLes.cons ?_ ?_ | exact VLe.own | exact VLe.full | exact VLe.nils | refine VLe.agg ?_ | exact VLe.fullE (dTms_one _) | exact VLe.fullE (dTms_two _ _) | exact VLe.fullE (dTms_three _ _ _) | exact VLe.fullE (dTys_one _) | exact VLe.fullE (dTys_two _ _) | exact VLe.fullE (dTys_three _ _ _)))) (EachA_ev .bool 4 (fun s i _ => s && decide (i ≤ 536870912)) (fun s i b => Near1_ev 0 s i b) t ht true) rfl rfl rfl rfl rfl ?_
  refine tr_nil ?_
  refine ac_ts mixed ?_
  first | refine t_load1 ty4 rfl rfl rfl rfl rfl ?_ | refine t_load1c ty4 rfl rfl rfl rfl ?_
  refine t_assign rfl rfl rfl ?_
  refine tr_nil ?_
  refine ac_ret ?_
  refine ⟨.inr rfl, _, ⟨_, _, rfl, rfl, rfl⟩, ?_, ?_⟩
  · (repeat' (first | exact VLe.rfl | exact VLes.rfl | exact VLes.nil | refine VLes.cons ?_ ?_ | refine VLe.agg ?_ | refine VLe.tup ?_ | exact VLe.own | exact VLe.full | exact VLe.nils | exact VLe.any | exact VLe.clo | exact VLe.fn | refine VLe.intE ?_ | refine VLe.boolE ?_ | refine VLe.sliceE ?_ | refine VLe.ownE ?_ | refine VLe.ownO ?_ | refine VLe.fullE ?_ | refine VLe.nilsE ?_))
  · (intro l o h; cases h)
theorem Count1_ev (at_ s i b : Int) : Ev Tryd.prog GL 57 ([.d (.int .i64 i), .d (.int .i64 b)] ++ [.ptr 1003 0, .ptr 1004 0]) [(1003, .cells [.d (.int .i64 at_)] 3), (1004, .cells [.d (.int .i64 s)] 3)] (.tup []) [(1003, .cells [.d (.int .i64 at_)] 3), (1004, .cells [.d (.int .i64 (if w64 (i - b) == at_ then w64 (s + 1) else s))] 3)] := by
  -- live at cond 0: 
  refine ev_of_body (N := 13) (ks := _) (ρ0 := [(0, _), (1, _), (2, _), (3, _)]) (σ0 := _) (rs := []) Tryd.func57 rfl (by kernel_rfl) rfl rfl rfl rfl rfl rfl rfl rfl rfl rfl (fun E ι0 => ?_)
  refine ac_ts mixed ?_
  refine t_move rfl rfl rfl ?_
  refine t_move rfl rfl rfl ?_
  refine t_bin rfl rfl .sub rfl rfl ?_
  first | refine t_load1 ty3 rfl rfl rfl rfl rfl ?_ | refine t_load1c ty3 rfl rfl rfl rfl ?_
  refine t_bin rfl rfl .eql rfl rfl ?_
  refine tr_nil ?_
  refine ac_bool (fun hb0 => ?_) (fun hb0 => ?_)
  · refine ac_cond rfl (fun _ => ?_) (fun hb => by cases hb)
    refine ac_t mixed ?_
    first | refine t_load1 ty3 rfl rfl rfl rfl rfl ?_ | refine t_load1c ty3 rfl rfl rfl rfl ?_
    refine t_bin rfl rfl .add rfl rfl ?_
    first | refine s_storeW ty3 rfl rfl rfl rfl rfl rfl rfl ?_ | refine s_store (ws := [_]) ty3 rfl rfl rfl rfl rfl rfl rfl rfl ?_
    refine tr_nil ?_
    change Ends _ _ _ _ _ _ _
    refine ⟨.inl rfl, [], rfl, ?_, ?_⟩
    · (repeat' (first | exact VLe.rfl | exact VLes.rfl | exact VLes.nil | refine VLes.cons ?_ ?_ | refine VLe.agg ?_ | refine VLe.tup ?_ | exact VLe.own | exact VLe.full | exact VLe.nils | exact VLe.any | exact VLe.clo | exact VLe.fn | refine VLe.intE ?_ | refine VLe.boolE ?_ | refine VLe.sliceE ?_ | refine VLe.ownE ?_ | refine VLe.ownO ?_ | refine VLe.fullE ?_ | refine VLe.nilsE ?_))
    · have e : (w64 (i - b) == at_) = (IntKind.i64.wrap (i - b) == at_) := rfl
      simp only [e, hb0, if_true, Bool.false_eq_true, if_false]
      (refine sigTo_at ?_; (repeat' (first | exact trivial | refine ⟨⟨_, rfl, ?_⟩, ?_⟩ | exact OLe.rfl | refine OLe.cells ?_ | exact VLe.rfl | exact VLes.rfl | exact VLes.nil | refine VLes.cons ?_ ?_ | exact VLe.any | exact VLe.own | exact VLe.full | exact VLe.clo | exact VLe.fn | refine VLe.intE ?_ | refine VLe.boolE ?_ | refine VLe.sliceE ?_ | refine VLe.ownE ?_ | refine VLe.fullE ?_ | refine VLe.nilsE ?_)))
  · refine ac_cond rfl (fun hb => by cases hb) (fun _ => ?_)
    refine ac_skip ?_
    change Ends _ _ _ _ _ _ _
    refine ⟨.inl rfl, [], rfl, ?_, ?_⟩
    · (repeat' (first | exact VLe.rfl | exact VLes.rfl | exact VLes.nil | refine VLes.cons ?_ ?_ | refine VLe.agg ?_ | refine VLe.tup ?_ | exact VLe.own | exact VLe.full | exact VLe.nils | exact VLe.any | exact VLe.clo | exact VLe.fn | refine VLe.intE ?_ | refine VLe.boolE ?_ | refine VLe.sliceE ?_ | refine VLe.ownE ?_ | refine VLe.ownO ?_ | refine VLe.fullE ?_ | refine VLe.nilsE ?_))
    · have e : (w64 (i - b) == at_) = (IntKind.i64.wrap (i - b) == at_) := rfl
      simp only [e, hb0, if_true, Bool.false_eq_true, if_false]
      (refine sigTo_at ?_; (repeat' (first | exact trivial | refine ⟨⟨_, rfl, ?_⟩, ?_⟩ | exact OLe.rfl | refine OLe.cells ?_ | exact VLe.rfl | exact VLes.rfl | exact VLes.nil | refine VLes.cons ?_ ?_ | exact VLe.any | exact VLe.own | exact VLe.full | exact VLe.clo | exact VLe.fn | refine VLe.intE ?_ | refine VLe.boolE ?_ | refine VLe.sliceE ?_ | refine VLe.ownE ?_ | refine VLe.fullE ?_ | refine VLe.nilsE ?_)))
theorem Count_ev (t : Trm) (ht : t.big ≤ 1000000) (at_ : Int) : Ev Tryd.prog GL 38 [vTm t, .d (.int .i64 at_)] [] (.d (.int .i64 (t.count at_))) [] := by
  refine ev_of_body (N := 10) (ks := []) (ρ0 := [(0, _), (1, _)]) (σ0 := []) (rs := [.tmp 4]) Tryd.func38 rfl (by kernel_rfl) rfl rfl rfl rfl rfl rfl rfl rfl rfl rfl (fun E ι0 => ?_)
  refine ac_ts mixed ?_
  refine s_box 2 rfl rfl rfl rfl rfl ?_
  refine s_box 1003 rfl rfl rfl rfl rfl ?_
  refine t_assign rfl rfl rfl ?_
  refine tr_nil ?_
  refine ac_ts mixed ?_
  refine s_alloc 1004 zer3 rfl rfl rfl rfl ?_
  first | refine s_storeW ty3 rfl rfl rfl rfl rfl rfl rfl ?_ | refine s_store (ws := [_]) ty3 rfl rfl rfl rfl rfl rfl rfl rfl ?_
  refine tr_nil ?_
  refine ac_ts mixed ?_
  first | refine t_load ty34 rfl rfl rfl rfl rfl rfl ?_ | refine s_loadWc ty34 rfl rfl rfl rfl ?_ | refine t_loadN (us := [_, _, _, _, _]) ty34 rfl rfl rfl rfl rfl rfl ?_ | refine t_loadNc (us := [_, _, _, _, _]) ty34 rfl rfl rfl rfl rfl ?_
  refine t_makeFunc (Opds.ofL rfl) rfl rfl ?_
  first | refine s_callSF rfl .rfl (EachB_ev (.int .i64 at_) 3 (fun x => .int .i64 x) 3 (fun s i b => if w64 (i - b) == at_ then w64 (s + 1) else s) (fun s i b => Count1_ev at_ s i b) t ht 0) rfl rfl rfl rfl rfl ?_ | refine s_callSF rfl (by (repeat' (first | exact VLes.rfl | exact VLes.nil | exact VLe.rfl | refine VLes.cons ?_ ?_ | exact VLe.own | exact VLe.full | exact VLe.nils | refine VLe.agg ?_ | exact VLe.fullE (dTms_one _) | exact VLe.fullE (dTms_two _ _) | exact VLe.fullE (dTms_three _ _ _) | exact VLe.fullE (dTys_one _) | exact VLe.fullE (dTys_two _ _) | exact VLe.fullE (dTys_three _ _ _)))) (EachB_ev (.int .i64 at_) 3 (fun x => .int .i64 x) 3 (fun s i b => if w64 (i - b) == at_ then w64 (s + 1) else s) (fun s i b => Count1_ev at_ s i b) t ht 0) rfl rfl rfl rfl rfl ?_
  refine tr_nil ?_
  refine ac_ts mixed ?_
  first | refine t_load1 ty3 rfl rfl rfl rfl rfl ?_ | refine t_load1c ty3 rfl rfl rfl rfl ?_
  refine t_assign rfl rfl rfl ?_
  refine tr_nil ?_
  refine ac_ret ?_
  refine ⟨.inr rfl, _, ⟨_, _, rfl, rfl, rfl⟩, ?_, ?_⟩
  · (repeat' (first | exact VLe.rfl | exact VLes.rfl | exact VLes.nil | refine VLes.cons ?_ ?_ | refine VLe.agg ?_ | refine VLe.tup ?_ | exact VLe.own | exact VLe.full | exact VLe.nils | exact VLe.any | exact VLe.clo | exact VLe.fn | refine VLe.intE ?_ | refine VLe.boolE ?_ | refine VLe.sliceE ?_ | refine VLe.ownE ?_ | refine VLe.ownO ?_ | refine VLe.fullE ?_ | refine VLe.nilsE ?_))
  · (intro l o h; cases h)
theorem RebuildA1_ev {g : FuncId} (c1 c2 : D) (t1 t2 : Nat) (step : Int → Int → Trm)
    (hgo : ∀ i b, Ev Tryd.prog GL g ([.d (.int .i64 i), .d (.int .i64 b)] ++ [.ptr 1003 0, .ptr 1004 0]) [(1003, .cells [.d c1] t1), (1004, .cells [.d c2] t2)] (vTm (step i b)) [(1003, .cells [.d c1] t1), (1004, .cells [.d c2] t2)])
    (t : Trm) (ht : t.big ≤ 1000000) : ∀ (b : Int), Ev Tryd.prog GL 71 ([vTm t, .d (.int .i64 b)] ++ [.ptr 1001 0, .ptr 1002 0])
      [(1001, .cells [.clo g [.ptr 1003 0, .ptr 1004 0]] 89), (1002, .cells [.clo 71 [.ptr 1001 0, .ptr 1002 0]] 90), (1003, .cells [.d c1] t1), (1004, .cells [.d c2] t2)] (vTm (t.rebuild step b))
      [(1001, .cells [.clo g [.ptr 1003 0, .ptr 1004 0]] 89), (1002, .cells [.clo 71 [.ptr 1001 0, .ptr 1002 0]] 90), (1003, .cells [.d c1] t1), (1004, .cells [.d c2] t2)] := by
  induction t using Trm.ind with
  | _ k ix ty l ih =>
  intro b
  have hl := bigTms_len l
  have hs : bigTms l < 1000000 := by simp [Trm.big] at ht; omega
  have hty : ty.sz ≤ 1000000 := by simp [Trm.big] at ht; omega
  have hlen : l.length ≤ 1000000 := by omega
  generalize hr : (Trm.mk k ix ty l).rebuild step b = r
  show Ev _ _ _ [.agg [.d (.int .i64 k), .d (.int .i64 ix), .d (.int .i64 ty.kind), .d (.slice (dTys ty.args)), .d (.slice (dTms l))], .d (.int .i64 b), .ptr 1001 0, .ptr 1002 0] _ (.agg [.d (.int .i64 r.kind), .d (.int .i64 r.index), .d (.int .i64 r.ty.kind), .d (.slice (dTys r.ty.args)), .d (.slice (dTms r.args))]) _
  -- live at block 0: t6(ptr), t7(ptr)
  -- live at block 1: t1, t3, t6(ptr), t7(ptr), t32, t33, t34
  -- live at cond 0: t1, t3, t4(ptr), t6(ptr)
  -- live at cond 1: t1, t3, t4(ptr), t6(ptr), t7(ptr)
  -- live at cond 2: t1, t3, t6(ptr), t7(ptr), t32, t33, t34
  -- live at loop 0: t1, t3, t6(ptr), t7(ptr), t32, t33, t34
  refine ev_of_body (N := 49) (ks := _) (ρ0 := [(0, _), (1, _), (2, _), (3, _)]) (σ0 := _) (rs := [.cell 6 34]) Tryd.func71 rfl (by kernel_rfl) rfl rfl rfl rfl rfl rfl rfl rfl rfl rfl (fun E ι0 => ?_)
  refine ac_ts mixed ?_
  refine s_box 4 rfl rfl rfl rfl rfl ?_
  refine s_alloc 6 zer34 rfl rfl rfl rfl ?_
  refine tr_nil ?_
  refine ac_seq ?_
  refine ac_ts mixed ?_
  first | refine t_fieldAddr fld34_0 rfl rfl rfl ?_ | refine t_fieldAddr_c fld34_0 rfl rfl rfl rfl rfl ?_
  first | refine t_load1 ty3 rfl rfl rfl rfl rfl ?_ | refine t_load1c ty3 rfl rfl rfl rfl ?_
  refine t_bin rfl rfl .eql rfl rfl ?_
  refine tr_nil ?_
  refine ac_bool (fun hb0 => ?_) (fun hb0 => ?_)
  · refine ac_cond rfl (fun _ => ?_) (fun hb => by cases hb)
    refine ac_ts mixed ?_
    first | refine t_load1 ty89 rfl rfl rfl rfl rfl ?_ | refine t_load1c ty89 rfl rfl rfl rfl ?_
    first | refine t_fieldAddr fld34_1 rfl rfl rfl ?_ | refine t_fieldAddr_c fld34_1 rfl rfl rfl rfl rfl ?_
    first | refine t_load1 ty3 rfl rfl rfl rfl rfl ?_ | refine t_load1c ty3 rfl rfl rfl rfl ?_
    refine t_move rfl rfl rfl ?_
    first | refine s_callS rfl (.inl rfl) rfl .rfl (hgo ix b) rfl rfl rfl rfl rfl ?_ | refine s_callS rfl (.inl rfl) rfl (by (repeat' (first | exact VLes.rfl | exact VLes.nil | exact VLe.rfl | refine VLes.cons ?_ ?_ | exact VLe.own | exact VLe.full | exact VLe.nils | refine VLe.agg ?_ | exact VLe.fullE (dTms_one _) | exact VLe.fullE (dTms_two _ _) | exact VLe.fullE (dTms_three _ _ _) | exact VLe.fullE (dTys_one _) | exact VLe.fullE (dTys_two _ _) | exact VLe.fullE (dTys_three _ _ _)))) (hgo ix b) rfl rfl rfl rfl rfl ?_
    first | refine s_storeW ty34 rfl rfl rfl rfl rfl rfl rfl ?_ | refine s_store (ws := [_, _, _, _, _]) ty34 rfl rfl rfl rfl rfl rfl rfl rfl ?_
    refine tr_nil ?_
    refine ac_ret ?_
    refine ⟨.inr rfl, _, ⟨_, _, _, _, _, rfl, rfl, rfl, .inl (retAgg ty34 rfl), rfl⟩, ?_, ?_⟩
    · have e : step ix b = r := by rw [← hr]; simp only [Trm.rebuild, hb0, if_true]
      rw [← e]
      exact VLe.rfl
    · (refine sigTo_at ?_; (repeat' (first | exact trivial | refine ⟨⟨_, rfl, ?_⟩, ?_⟩ | exact OLe.rfl | refine OLe.cells ?_ | exact VLe.rfl | exact VLes.rfl | exact VLes.nil | refine VLes.cons ?_ ?_ | exact VLe.any | exact VLe.own | exact VLe.full | exact VLe.clo | exact VLe.fn | refine VLe.intE ?_ | refine VLe.boolE ?_ | refine VLe.sliceE ?_ | refine VLe.ownE ?_ | refine VLe.fullE ?_ | refine VLe.nilsE ?_)))
  · refine ac_cond rfl (fun hb => by cases hb) (fun _ => ?_)
    refine ac_skip ?_
    change AC _ _ _ _ _
    refine ac_ds mixed ?_
    first | refine t_fieldAddr fld34_0 rfl rfl rfl ?_ | refine t_fieldAddr_c fld34_0 rfl rfl rfl rfl rfl ?_
    first | refine t_load1 ty3 rfl rfl rfl rfl rfl ?_ | refine t_load1c ty3 rfl rfl rfl rfl ?_
    first | refine t_fieldAddr fld34_1 rfl rfl rfl ?_ | refine t_fieldAddr_c fld34_1 rfl rfl rfl rfl rfl ?_
    first | refine t_load1 ty3 rfl rfl rfl rfl rfl ?_ | refine t_load1c ty3 rfl rfl rfl rfl ?_
    first | refine t_fieldAddr fld34_2 rfl rfl rfl ?_ | refine t_fieldAddr_c fld34_2 rfl rfl rfl rfl rfl ?_
    first | refine t_load ty30 rfl rfl rfl rfl rfl rfl ?_ | refine s_loadWc ty30 rfl rfl rfl rfl ?_ | refine t_loadN (us := [_, _]) ty30 rfl rfl rfl rfl rfl rfl ?_ | refine t_loadNc (us := [_, _]) ty30 rfl rfl rfl rfl rfl ?_
    first | refine s_callF rfl .rfl (OwnType_ev ty hty) rfl rfl ?_ | refine s_callF rfl (by (repeat' (first | exact VLes.rfl | exact VLes.nil | exact VLe.rfl | refine VLes.cons ?_ ?_ | exact VLe.own | exact VLe.full | exact VLe.nils | refine VLe.agg ?_ | exact VLe.fullE (dTms_one _) | exact VLe.fullE (dTms_two _ _) | exact VLe.fullE (dTms_three _ _ _) | exact VLe.fullE (dTys_one _) | exact VLe.fullE (dTys_two _ _) | exact VLe.fullE (dTys_three _ _ _)))) (OwnType_ev ty hty) rfl rfl ?_
    refine s_build (res := [_, _, _, _, _]) zer34 plc34 rfl rfl rfl rfl rfl ?_
    refine s_alloc 7 zer34 rfl rfl rfl rfl ?_
    first | refine s_storeW ty34 rfl rfl rfl rfl rfl rfl rfl ?_ | refine s_store (ws := [_, _, _, _, _]) ty34 rfl rfl rfl rfl rfl rfl rfl rfl ?_
    refine tr_nil ⟨by kernel_rfl, ?_⟩
    refine ac_join (fun (b1 : Int) => ⟨[(4, .ptr 4 0), (6, .ptr 6 0), (7, .ptr 7 0), (1, .d (.int .i64 b1)), (3, .ptr 1002 0)], (4, some (.cells [.d (.int .i64 k), .d (.int .i64 ix), .d (.int .i64 ty.kind), .d (.slice (dTys ty.args)), .d (.slice (dTms l))] 34)) :: (6, some (.cells [.d (.int .i64 0), .d (.int .i64 0), .d (.int .i64 0), .d .nils, .d .nils] 34)) :: (7, some (.cells [.d (.int .i64 k), .d (.int .i64 ix), .d (.int .i64 ty.kind), .d (.slice (dTys ty.args)), .d .nils] 34)) :: someO [(1001, .cells [.clo g [.ptr 1003 0, .ptr 1004 0]] 89), (1002, .cells [.clo 71 [.ptr 1001 0, .ptr 1002 0]] 90), (1003, .cells [.d c1] t1), (1004, .cells [.d c2] t2)], [4, 6, 7, 1001, 1002, 1003, 1004]⟩) (fun (b1 : Int) => b1 = (if k == 2 then w64 (b + 1) else b)) ?_ (fun b1 hj => ?_)
    · refine ac_ts mixed ?_
      first | refine t_fieldAddr fld34_0 rfl rfl rfl ?_ | refine t_fieldAddr_c fld34_0 rfl rfl rfl rfl rfl ?_
      first | refine t_load1 ty3 rfl rfl rfl rfl rfl ?_ | refine t_load1c ty3 rfl rfl rfl rfl ?_
      refine t_bin rfl rfl .eql rfl rfl ?_
      refine tr_nil ?_
      refine ac_bool (fun hb1 => ?_) (fun hb1 => ?_)
      · refine ac_cond rfl (fun _ => ?_) (fun hb => by cases hb)
        refine ac_t mixed ?_
        refine t_move rfl rfl rfl ?_
        refine t_bin rfl rfl .add rfl rfl ?_
        refine t_assign rfl rfl rfl ?_
        refine tr_nil ?_
        show ∃ a, _ ∧ Weak _ _ _
        refine ⟨(if k == 2 then w64 (b + 1) else b), ?_, ?_⟩
        rotate_left
        · simp only [hb1, if_true, Bool.false_eq_true, if_false]
          (refine weak_of ?_ ?_ rfl rfl rfl <;> (repeat' (first | exact trivial | refine ⟨⟨_, rfl, ?_⟩, ?_⟩ | exact OLe.rfl | refine OLe.cells ?_ | exact VLe.rfl | exact VLes.rfl | exact VLes.nil | refine VLes.cons ?_ ?_ | refine VLe.agg ?_ | refine VLe.tup ?_ | exact VLe.own | exact VLe.full | exact VLe.nils | exact VLe.any | exact VLe.clo | exact VLe.fn | refine VLe.intE ?_ | refine VLe.boolE ?_ | refine VLe.sliceE ?_ | refine VLe.ownE ?_ | refine VLe.ownO ?_ | refine VLe.fullE ?_ | refine VLe.nilsE ?_ | refine OLe.row ?_)))
        · rfl
      · refine ac_cond rfl (fun hb => by cases hb) (fun _ => ?_)
        refine ac_skip ?_
        show ∃ a, _ ∧ Weak _ _ _
        refine ⟨(if k == 2 then w64 (b + 1) else b), ?_, ?_⟩
        rotate_left
        · simp only [hb1, if_true, Bool.false_eq_true, if_false]
          (refine weak_of ?_ ?_ rfl rfl rfl <;> (repeat' (first | exact trivial | refine ⟨⟨_, rfl, ?_⟩, ?_⟩ | exact OLe.rfl | refine OLe.cells ?_ | exact VLe.rfl | exact VLes.rfl | exact VLes.nil | refine VLes.cons ?_ ?_ | refine VLe.agg ?_ | refine VLe.tup ?_ | exact VLe.own | exact VLe.full | exact VLe.nils | exact VLe.any | exact VLe.clo | exact VLe.fn | refine VLe.intE ?_ | refine VLe.boolE ?_ | refine VLe.sliceE ?_ | refine VLe.ownE ?_ | refine VLe.ownO ?_ | refine VLe.fullE ?_ | refine VLe.nilsE ?_ | refine OLe.row ?_)))
        · rfl
    · subst hj
      refine ac_seq ?_
      refine ac_ts mixed ?_
      first | refine t_fieldAddr fld34_3 rfl rfl rfl ?_ | refine t_fieldAddr_c fld34_3 rfl rfl rfl rfl rfl ?_
      first | refine t_load1 ty32 rfl rfl rfl rfl rfl ?_ | refine t_load1c ty32 rfl rfl rfl rfl ?_
      refine t_len rfl sli32 rfl (by constructor) rfl rfl ?_
      refine t_move rfl rfl rfl ?_
      refine tr_nil ?_
      refine ac_weak (weak_row (L := 100) (l := 7) (j := 4) (sz := 5) (e := 34) (es := []) rfl rfl rfl VLe.nilfull rfl) ?_
      refine ac_range mixed ((dTms l).length) (fun i => [(6, .ptr 6 0), (7, .ptr 7 0), (1, .d (.int .i64 (if k == 2 then w64 (b + 1) else b))), (3, .ptr 1002 0), (32, .d (.slice (dTms l)))]) (fun i => (6, some (.cells [.d (.int .i64 0), .d (.int .i64 0), .d (.int .i64 0), .d .nils, .d .nils] 34)) :: (7, some (.cells [.d (.int .i64 k), .d (.int .i64 ix), .d (.int .i64 ty.kind), .d (.slice (dTys ty.args)), .own (dTms (rebuilds step (l.take i) (if k == 2 then w64 (b + 1) else b))) 100] 34)) :: (100, some (.row (dTms (rebuilds step (l.take i) (if k == 2 then w64 (b + 1) else b))).length 5 34)) :: someO [(1001, .cells [.clo g [.ptr 1003 0, .ptr 1004 0]] 89), (1002, .cells [.clo 71 [.ptr 1001 0, .ptr 1002 0]] 90), (1003, .cells [.d c1] t1), (1004, .cells [.d c2] t2)]) (fun i => [6, 7, 100, 1001, 1002, 1003, 1004]) (fun i => True) trivial ?_ (by first | omega | (simp only [dTys_len, dTms_len, dInts_len, List.length_append, List.length_cons, List.length_nil, List.length_take]; omega)) rfl (fun i => ⟨rfl, rfl⟩) (fun i hi hI => ?_) (fun hI => ?_)
      · (refine weak_of ?_ ?_ rfl rfl rfl <;> (repeat' (first | exact trivial | refine ⟨⟨_, rfl, ?_⟩, ?_⟩ | exact OLe.rfl | refine OLe.cells ?_ | exact VLe.rfl | exact VLes.rfl | exact VLes.nil | refine VLes.cons ?_ ?_ | refine VLe.agg ?_ | refine VLe.tup ?_ | exact VLe.own | exact VLe.full | exact VLe.nils | exact VLe.any | exact VLe.clo | exact VLe.fn | refine VLe.intE ?_ | refine VLe.boolE ?_ | refine VLe.sliceE ?_ | refine VLe.ownE ?_ | refine VLe.ownO ?_ | refine VLe.fullE ?_ | refine VLe.nilsE ?_ | refine OLe.row ?_)))
      · rw [dTms_len] at hi
        have hg : l[i]? = some l[i] := List.getElem?_eq_getElem hi
        have hget := dTms_get hg
        have hm := List.getElem_mem hi
        have hsz := bigTms_mem hm
        refine ac_ts mixed ?_
        refine t_indexAddr sli32 rfl (by constructor) rfl (Int.natCast_nonneg _) hget rfl rfl rfl ?_
        first | refine t_load ty34 rfl rfl rfl rfl rfl rfl ?_ | refine s_loadWc ty34 rfl rfl rfl rfl ?_ | refine t_loadN (us := [_, _, _, _, _]) ty34 rfl rfl rfl rfl rfl rfl ?_ | refine t_loadNc (us := [_, _, _, _, _]) ty34 rfl rfl rfl rfl rfl ?_
        refine s_alloc 9 zer34 rfl rfl rfl rfl ?_
        first | refine s_storeW ty34 rfl rfl rfl rfl rfl rfl rfl ?_ | refine s_store (ws := [_, _, _, _, _]) ty34 rfl rfl rfl rfl rfl rfl rfl rfl ?_
        refine tr_nil ?_
        refine ac_d mixed ?_
        first | refine t_fieldAddr fld34_3 rfl rfl rfl ?_ | refine t_fieldAddr_c fld34_3 rfl rfl rfl rfl rfl ?_
        first | refine t_load1 ty32 rfl rfl rfl rfl rfl ?_ | refine t_load1c ty32 rfl rfl rfl rfl ?_
        first | refine t_load1 ty90 rfl rfl rfl rfl rfl ?_ | refine t_load1c ty90 rfl rfl rfl rfl ?_
        first | refine t_load ty34 rfl rfl rfl rfl rfl rfl ?_ | refine s_loadWc ty34 rfl rfl rfl rfl ?_ | refine t_loadN (us := [_, _, _, _, _]) ty34 rfl rfl rfl rfl rfl rfl ?_ | refine t_loadNc (us := [_, _, _, _, _]) ty34 rfl rfl rfl rfl rfl ?_
        refine t_move rfl rfl rfl ?_
        first | refine s_callS rfl (.inl rfl) rfl .rfl (ih _ hm (by omega) _) rfl rfl rfl rfl rfl ?_ | refine s_callS rfl (.inl rfl) rfl (by (repeat' (first | exact VLes.rfl | exact VLes.nil | exact VLe.rfl | refine VLes.cons ?_ ?_ | exact VLe.own | exact VLe.full | exact VLe.nils | refine VLe.agg ?_ | exact VLe.fullE (dTms_one _) | exact VLe.fullE (dTms_two _ _) | exact VLe.fullE (dTms_three _ _ _) | exact VLe.fullE (dTys_one _) | exact VLe.fullE (dTys_two _ _) | exact VLe.fullE (dTys_three _ _ _)))) (ih _ hm (by omega) _) rfl rfl rfl rfl rfl ?_
        first | refine t_buildSlice sli32 (Opds.ofL rfl) (.cons (.agg .rfl) .nil) (by intro x hx; simp only [List.mem_cons, List.not_mem_nil, or_false] at hx; rcases hx with rfl <;> rfl) rfl rfl rfl rfl ?_ | refine t_buildSlice sli32 (Opds.ofL rfl) (Elems.ofL rfl) (by intro x hx; simp only [List.mem_cons, List.not_mem_nil, or_false] at hx; rcases hx with rfl <;> rfl) rfl rfl rfl rfl ?_
        first | refine t_append_own rfl sli32 rfl rfl (by constructor) rfl (by (first | exact dTys_sz _ | exact dTms_sz _ | exact dInts_sz _ | exact sz_nil | exact sz_one rfl | exact sz_app (dTys_sz _) (sz_one rfl) | exact sz_app (dTms_sz _) (sz_one rfl))) (by (first | exact dTys_sz _ | exact dTms_sz _ | exact dInts_sz _ | exact sz_nil | exact sz_one rfl | exact sz_app (dTys_sz _) (sz_one rfl) | exact sz_app (dTms_sz _) (sz_one rfl))) (by simp only [dTms_len, rebuilds_map, List.length_map, List.length_take, List.length_cons, List.length_nil]; omega) rfl rfl rfl rfl ?_ | refine t_append rfl sli32 rfl (by first | exact VLe.nilfull | exact VLe.rfl) rfl (by constructor) (by (first | exact dTys_sz _ | exact dTms_sz _ | exact dInts_sz _ | exact sz_nil | exact sz_one rfl | exact sz_app (dTys_sz _) (sz_one rfl) | exact sz_app (dTms_sz _) (sz_one rfl))) (by (first | exact dTys_sz _ | exact dTms_sz _ | exact dInts_sz _ | exact sz_nil | exact sz_one rfl | exact sz_app (dTys_sz _) (sz_one rfl) | exact sz_app (dTms_sz _) (sz_one rfl))) (by simp only [dTms_len, rebuilds_map, List.length_map, List.length_take, List.length_cons, List.length_nil]; omega) rfl rfl rfl rfl rfl ?_
        first | refine t_fieldAddr fld34_3 rfl rfl rfl ?_ | refine t_fieldAddr_c fld34_3 rfl rfl rfl rfl rfl ?_
        first | refine s_storeW ty32 rfl rfl rfl rfl rfl rfl rfl ?_ | refine s_store (ws := [_, _, _, _, _]) ty32 rfl rfl rfl rfl rfl rfl rfl rfl ?_
        refine tr_nil ⟨by kernel_rfl, ?_⟩
        show _ ∧ Weak _ _ _
        refine ⟨trivial, ?_⟩
        rw [rebuilds_take step _ hg]
        (refine weak_of ?_ ?_ rfl rfl rfl <;> (repeat' (first | exact trivial | refine ⟨⟨_, rfl, ?_⟩, ?_⟩ | exact OLe.rfl | refine OLe.cells ?_ | exact VLe.rfl | exact VLes.rfl | exact VLes.nil | refine VLes.cons ?_ ?_ | refine VLe.agg ?_ | refine VLe.tup ?_ | exact VLe.own | exact VLe.full | exact VLe.nils | exact VLe.any | exact VLe.clo | exact VLe.fn | refine VLe.intE ?_ | refine VLe.boolE ?_ | refine VLe.sliceE ?_ | refine VLe.ownE ?_ | refine VLe.ownO ?_ | refine VLe.fullE ?_ | refine VLe.nilsE ?_ | refine OLe.row ?_)))
      · skip
        change AC _ _ _ _ _
        refine ac_ts mixed ?_
        first | refine t_load ty34 rfl rfl rfl rfl rfl rfl ?_ | refine s_loadWc ty34 rfl rfl rfl rfl ?_ | refine t_loadN (us := [_, _, _, _, _]) ty34 rfl rfl rfl rfl rfl rfl ?_ | refine t_loadNc (us := [_, _, _, _, _]) ty34 rfl rfl rfl rfl rfl ?_
        first | refine s_storeW ty34 rfl rfl rfl rfl rfl rfl rfl ?_ | refine s_store (ws := [_, _, _, _, _]) ty34 rfl rfl rfl rfl rfl rfl rfl rfl ?_
        refine tr_nil ?_
        refine ac_ret ?_
        refine ⟨.inr rfl, _, ⟨_, _, _, _, _, rfl, rfl, rfl, .inl (retAgg ty34 rfl), rfl⟩, ?_, ?_⟩
        · rw [← hr]
          simp only [Trm.rebuild, hb0, Bool.false_eq_true, if_false]
          (repeat' (first | exact VLe.rfl | exact VLes.rfl | exact VLes.nil | refine VLes.cons ?_ ?_ | refine VLe.agg ?_ | refine VLe.tup ?_ | exact VLe.own | exact VLe.full | exact VLe.nils | exact VLe.any | exact VLe.clo | exact VLe.fn | refine VLe.intE ?_ | refine VLe.boolE ?_ | refine VLe.sliceE ?_ | refine VLe.ownE ?_ | refine VLe.ownO ?_ | refine VLe.fullE ?_ | refine VLe.nilsE ?_))
          rw [dTms_len, List.take_length]; rfl
        · (refine sigTo_at ?_; (repeat' (first | exact trivial | refine ⟨⟨_, rfl, ?_⟩, ?_⟩ | exact OLe.rfl | refine OLe.cells ?_ | exact VLe.rfl | exact VLes.rfl | exact VLes.nil | refine VLes.cons ?_ ?_ | exact VLe.any | exact VLe.own | exact VLe.full | exact VLe.clo | exact VLe.fn | refine VLe.intE ?_ | refine VLe.boolE ?_ | refine VLe.sliceE ?_ | refine VLe.ownE ?_ | refine VLe.fullE ?_ | refine VLe.nilsE ?_)))
theorem RebuildA_ev {g : FuncId} (c1 c2 : D) (t1 t2 : Nat) (step : Int → Int → Trm)
    (hgo : ∀ i b, Ev Tryd.prog GL g ([.d (.int .i64 i), .d (.int .i64 b)] ++ [.ptr 1003 0, .ptr 1004 0]) [(1003, .cells [.d c1] t1), (1004, .cells [.d c2] t2)] (vTm (step i b)) [(1003, .cells [.d c1] t1), (1004, .cells [.d c2] t2)])
    (t : Trm) (ht : t.big ≤ 1000000) : Ev Tryd.prog GL 58 ([vTm t, .clo g [.ptr 1003 0, .ptr 1004 0]] ++ []) [(1003, .cells [.d c1] t1), (1004, .cells [.d c2] t2)] (vTm (t.rebuild step 0)) [(1003, .cells [.d c1] t1), (1004, .cells [.d c2] t2)] := by
  refine ev_of_body (N := 10) (ks := _) (ρ0 := [(0, _), (1, _)]) (σ0 := _) (rs := [.cell 4 34]) Tryd.func58 rfl (by kernel_rfl) rfl rfl rfl rfl rfl rfl rfl rfl rfl rfl (fun E ι0 => ?_)
  refine ac_ts mixed ?_
  refine s_box 2 rfl rfl rfl rfl rfl ?_
  refine s_box 1001 rfl rfl rfl rfl rfl ?_
  refine s_alloc 4 zer34 rfl rfl rfl rfl ?_
  refine tr_nil ?_
  refine ac_ts mixed ?_
  refine s_alloc 1002 zer90 rfl rfl rfl rfl ?_
  refine tr_nil ?_
  refine ac_ts mixed ?_
  refine t_makeFunc (Opds.ofL rfl) rfl rfl ?_
  first | refine s_storeW ty90 rfl rfl rfl rfl rfl rfl rfl ?_ | refine s_store (ws := [_]) ty90 rfl rfl rfl rfl rfl rfl rfl rfl ?_
  refine tr_nil ?_
  refine ac_ts mixed ?_
  first | refine t_load1 ty90 rfl rfl rfl rfl rfl ?_ | refine t_load1c ty90 rfl rfl rfl rfl ?_
  first | refine t_load ty34 rfl rfl rfl rfl rfl rfl ?_ | refine s_loadWc ty34 rfl rfl rfl rfl ?_ | refine t_loadN (us := [_, _, _, _, _]) ty34 rfl rfl rfl rfl rfl rfl ?_ | refine t_loadNc (us := [_, _, _, _, _]) ty34 rfl rfl rfl rfl rfl ?_
  first | refine s_callS rfl (.inl rfl) rfl .rfl (RebuildA1_ev c1 c2 t1 t2 step hgo t ht 0) rfl rfl rfl rfl rfl ?_ | refine s_callS rfl (.inl rfl) rfl (by (repeat' (first | exact VLes.rfl | exact VLes.nil | exact VLe.rfl | refine VLes.cons ?_ ?_ | exact VLe.own | exact VLe.full | exact VLe.nils | refine VLe.agg ?_ | exact VLe.fullE (dTms_one _) | exact VLe.fullE (dTms_two _ _) | exact VLe.fullE (dTms_three _ _ _) | exact VLe.fullE (dTys_one _) | exact VLe.fullE (dTys_two _ _) | exact VLe.fullE (dTys_three _ _ _)))) (RebuildA1_ev c1 c2 t1 t2 step hgo t ht 0) rfl rfl rfl rfl rfl ?_
  first | refine s_storeW ty34 rfl rfl rfl rfl rfl rfl rfl ?_ | refine s_store (ws := [_, _, _, _, _]) ty34 rfl rfl rfl rfl rfl rfl rfl rfl ?_
  refine tr_nil ?_
  refine ac_ret ?_
  refine ⟨.inr rfl, _, ⟨_, _, _, _, _, rfl, rfl, rfl, .inl (retAgg ty34 rfl), rfl⟩, ?_, ?_⟩
  · (repeat' (first | exact VLe.rfl | exact VLes.rfl | exact VLes.nil | refine VLes.cons ?_ ?_ | refine VLe.agg ?_ | refine VLe.tup ?_ | exact VLe.own | exact VLe.full | exact VLe.nils | exact VLe.any | exact VLe.clo | exact VLe.fn | refine VLe.intE ?_ | refine VLe.boolE ?_ | refine VLe.sliceE ?_ | refine VLe.ownE ?_ | refine VLe.ownO ?_ | refine VLe.fullE ?_ | refine VLe.nilsE ?_))
  · (refine sigTo_at ?_; (repeat' (first | exact trivial | refine ⟨⟨_, rfl, ?_⟩, ?_⟩ | exact OLe.rfl | refine OLe.cells ?_ | exact VLe.rfl | exact VLes.rfl | exact VLes.nil | refine VLes.cons ?_ ?_ | exact VLe.any | exact VLe.own | exact VLe.full | exact VLe.clo | exact VLe.fn | refine VLe.intE ?_ | refine VLe.boolE ?_ | refine VLe.sliceE ?_ | refine VLe.ownE ?_ | refine VLe.fullE ?_ | refine VLe.nilsE ?_)))
theorem RebuildB1_ev {g : FuncId} (c1 d1 d2 d3 d4 d5 : D) (t1 t2 : Nat) (step : Int → Int → Trm)
    (hgo : ∀ i b, Ev Tryd.prog GL g ([.d (.int .i64 i), .d (.int .i64 b)] ++ [.ptr 1003 0, .ptr 1004 0]) [(1003, .cells [.d c1] t1), (1004, .cells [.d d1, .d d2, .d d3, .d d4, .d d5] t2)] (vTm (step i b)) [(1003, .cells [.d c1] t1), (1004, .cells [.d d1, .d d2, .d d3, .d d4, .d d5] t2)])
    (t : Trm) (ht : t.big ≤ 1000000) : ∀ (b : Int), Ev Tryd.prog GL 71 ([vTm t, .d (.int .i64 b)] ++ [.ptr 1001 0, .ptr 1002 0])
      [(1001, .cells [.clo g [.ptr 1003 0, .ptr 1004 0]] 89), (1002, .cells [.clo 71 [.ptr 1001 0, .ptr 1002 0]] 90), (1003, .cells [.d c1] t1), (1004, .cells [.d d1, .d d2, .d d3, .d d4, .d d5] t2)] (vTm (t.rebuild step b))
      [(1001, .cells [.clo g [.ptr 1003 0, .ptr 1004 0]] 89), (1002, .cells [.clo 71 [.ptr 1001 0, .ptr 1002 0]] 90), (1003, .cells [.d c1] t1), (1004, .cells [.d d1, .d d2, .d d3, .d d4, .d d5] t2)] := by
  induction t using Trm.ind with
  | _ k ix ty l ih =>
  intro b
  have hl := bigTms_len l
  have hs : bigTms l < 1000000 := by simp [Trm.big] at ht; omega
  have hty : ty.sz ≤ 1000000 := by simp [Trm.big] at ht; omega
  have hlen : l.length ≤ 1000000 := by omega
  generalize hr : (Trm.mk k ix ty l).rebuild step b = r
  show Ev _ _ _ [.agg [.d (.int .i64 k), .d (.int .i64 ix), .d (.int .i64 ty.kind), .d (.slice (dTys ty.args)), .d (.slice (dTms l))], .d (.int .i64 b), .ptr 1001 0, .ptr 1002 0] _ (.agg [.d (.int .i64 r.kind), .d (.int .i64 r.index), .d (.int .i64 r.ty.kind), .d (.slice (dTys r.ty.args)), .d (.slice (dTms r.args))]) _
  -- live at block 0: t6(ptr), t7(ptr)
  -- live at block 1: t1, t3, t6(ptr), t7(ptr), t32, t33, t34
  -- live at cond 0: t1, t3, t4(ptr), t6(ptr)
  -- live at cond 1: t1, t3, t4(ptr), t6(ptr), t7(ptr)
  -- live at cond 2: t1, t3, t6(ptr), t7(ptr), t32, t33, t34
  -- live at loop 0: t1, t3, t6(ptr), t7(ptr), t32, t33, t34
  refine ev_of_body (N := 49) (ks := _) (ρ0 := [(0, _), (1, _), (2, _), (3, _)]) (σ0 := _) (rs := [.cell 6 34]) Tryd.func71 rfl (by kernel_rfl) rfl rfl rfl rfl rfl rfl rfl rfl rfl rfl (fun E ι0 => ?_)
  refine ac_ts mixed ?_
  refine s_box 4 rfl rfl rfl rfl rfl ?_
  refine s_alloc 6 zer34 rfl rfl rfl rfl ?_
  refine tr_nil ?_
  refine ac_seq ?_
  refine ac_ts mixed ?_
  first | refine t_fieldAddr fld34_0 rfl rfl rfl ?_ | refine t_fieldAddr_c fld34_0 rfl rfl rfl rfl rfl ?_
  first | refine t_load1 ty3 rfl rfl rfl rfl rfl ?_ | refine t_load1c ty3 rfl rfl rfl rfl ?_
  refine t_bin rfl rfl .eql rfl rfl ?_
  refine tr_nil ?_
  refine ac_bool (fun hb0 => ?_) (fun hb0 => ?_)
  · refine ac_cond rfl (fun _ => ?_) (fun hb => by cases hb)
    refine ac_ts mixed ?_
    first | refine t_load1 ty89 rfl rfl rfl rfl rfl ?_ | refine t_load1c ty89 rfl rfl rfl rfl ?_
    first | refine t_fieldAddr fld34_1 rfl rfl rfl ?_ | refine t_fieldAddr_c fld34_1 rfl rfl rfl rfl rfl ?_
    first | refine t_load1 ty3 rfl rfl rfl rfl rfl ?_ | refine t_load1c ty3 rfl rfl rfl rfl ?_
    refine t_move rfl rfl rfl ?_
    first | refine s_callS rfl (.inl rfl) rfl .rfl (hgo ix b) rfl rfl rfl rfl rfl ?_ | refine s_callS rfl (.inl rfl) rfl (by (repeat' (first | exact VLes.rfl | exact VLes.nil | exact VLe.rfl | refine VLes.cons ?_ ?_ | exact VLe.own | exact VLe.full | exact VLe.nils | refine VLe.agg ?_ | exact VLe.fullE (dTms_one _) | exact VLe.fullE (dTms_two _ _) | exact VLe.fullE (dTms_three _ _ _) | exact VLe.fullE (dTys_one _) | exact VLe.fullE (dTys_two _ _) | exact VLe.fullE (dTys_three _ _ _)))) (hgo ix b) rfl rfl rfl rfl rfl ?_
    first | refine s_storeW ty34 rfl rfl rfl rfl rfl rfl rfl ?_ | refine s_store (ws := [_, _, _, _, _]) ty34 rfl rfl rfl rfl rfl rfl rfl rfl ?_
    refine tr_nil ?_
    refine ac_ret ?_
    refine ⟨.inr rfl, _, ⟨_, _, _, _, _, rfl, rfl, rfl, .inl (retAgg ty34 rfl), rfl⟩, ?_, ?_⟩
    · have e : step ix b = r := by rw [← hr]; simp only [Trm.rebuild, hb0, if_true]
      rw [← e]
      exact VLe.rfl
    · (refine sigTo_at ?_; (repeat' (first | exact trivial | refine ⟨⟨_, rfl, ?_⟩, ?_⟩ | exact OLe.rfl | refine OLe.cells ?_ | exact VLe.rfl | exact VLes.rfl | exact VLes.nil | refine VLes.cons ?_ ?_ | exact VLe.any | exact VLe.own | exact VLe.full | exact VLe.clo | exact VLe.fn | refine VLe.intE ?_ | refine VLe.boolE ?_ | refine VLe.sliceE ?_ | refine VLe.ownE ?_ | refine VLe.fullE ?_ | refine VLe.nilsE ?_)))
  · refine ac_cond rfl (fun hb => by cases hb) (fun _ => ?_)
    refine ac_skip ?_
    change AC _ _ _ _ _
    refine ac_ds mixed ?_
    first | refine t_fieldAddr fld34_0 rfl rfl rfl ?_ | refine t_fieldAddr_c fld34_0 rfl rfl rfl rfl rfl ?_
    first | refine t_load1 ty3 rfl rfl rfl rfl rfl ?_ | refine t_load1c ty3 rfl rfl rfl rfl ?_
    first | refine t_fieldAddr fld34_1 rfl rfl rfl ?_ | refine t_fieldAddr_c fld34_1 rfl rfl rfl rfl rfl ?_
    first | refine t_load1 ty3 rfl rfl rfl rfl rfl ?_ | refine t_load1c ty3 rfl rfl rfl rfl ?_
    first | refine t_fieldAddr fld34_2 rfl rfl rfl ?_ | refine t_fieldAddr_c fld34_2 rfl rfl rfl rfl rfl ?_
    first | refine t_load ty30 rfl rfl rfl rfl rfl rfl ?_ | refine s_loadWc ty30 rfl rfl rfl rfl ?_ | refine t_loadN (us := [_, _]) ty30 rfl rfl rfl rfl rfl rfl ?_ | refine t_loadNc (us := [_, _]) ty30 rfl rfl rfl rfl rfl ?_
    first | refine s_callF rfl .rfl (OwnType_ev ty hty) rfl rfl ?_ | refine s_callF rfl (by (repeat' (first | exact VLes.rfl | exact VLes.nil | exact VLe.rfl | refine VLes.cons ?_ ?_ | exact VLe.own | exact VLe.full | exact VLe.nils | refine VLe.agg ?_ | exact VLe.fullE (dTms_one _) | exact VLe.fullE (dTms_two _ _) | exact VLe.fullE (dTms_three _ _ _) | exact VLe.fullE (dTys_one _) | exact VLe.fullE (dTys_two _ _) | exact VLe.fullE (dTys_three _ _ _)))) (OwnType_ev ty hty) rfl rfl ?_
    refine s_build (res := [_, _, _, _, _]) zer34 plc34 rfl rfl rfl rfl rfl ?_
    refine s_alloc 7 zer34 rfl rfl rfl rfl ?_
    first | refine s_storeW ty34 rfl rfl rfl rfl rfl rfl rfl ?_ | refine s_store (ws := [_, _, _, _, _]) ty34 rfl rfl rfl rfl rfl rfl rfl rfl ?_
    refine tr_nil ⟨by kernel_rfl, ?_⟩
    refine ac_join (fun (b1 : Int) => ⟨[(4, .ptr 4 0), (6, .ptr 6 0), (7, .ptr 7 0), (1, .d (.int .i64 b1)), (3, .ptr 1002 0)], (4, some (.cells [.d (.int .i64 k), .d (.int .i64 ix), .d (.int .i64 ty.kind), .d (.slice (dTys ty.args)), .d (.slice (dTms l))] 34)) :: (6, some (.cells [.d (.int .i64 0), .d (.int .i64 0), .d (.int .i64 0), .d .nils, .d .nils] 34)) :: (7, some (.cells [.d (.int .i64 k), .d (.int .i64 ix), .d (.int .i64 ty.kind), .d (.slice (dTys ty.args)), .d .nils] 34)) :: someO [(1001, .cells [.clo g [.ptr 1003 0, .ptr 1004 0]] 89), (1002, .cells [.clo 71 [.ptr 1001 0, .ptr 1002 0]] 90), (1003, .cells [.d c1] t1), (1004, .cells [.d d1, .d d2, .d d3, .d d4, .d d5] t2)], [4, 6, 7, 1001, 1002, 1003, 1004]⟩) (fun (b1 : Int) => b1 = (if k == 2 then w64 (b + 1) else b)) ?_ (fun b1 hj => ?_)
    · refine ac_ts mixed ?_
      first | refine t_fieldAddr fld34_0 rfl rfl rfl ?_ | refine t_fieldAddr_c fld34_0 rfl rfl rfl rfl rfl ?_
      first | refine t_load1 ty3 rfl rfl rfl rfl rfl ?_ | refine t_load1c ty3 rfl rfl rfl rfl ?_
      refine t_bin rfl rfl .eql rfl rfl ?_
      refine tr_nil ?_
      refine ac_bool (fun hb1 => ?_) (fun hb1 => ?_)
      · refine ac_cond rfl (fun _ => ?_) (fun hb => by cases hb)
        refine ac_t mixed ?_
        refine t_move rfl rfl rfl ?_
        refine t_bin rfl rfl .add rfl rfl ?_
        refine t_assign rfl rfl rfl ?_
        refine tr_nil ?_
        show ∃ a, _ ∧ Weak _ _ _
        refine ⟨(if k == 2 then w64 (b + 1) else b), ?_, ?_⟩
        rotate_left
        · simp only [hb1, if_true, Bool.false_eq_true, if_false]
          (refine weak_of ?_ ?_ rfl rfl rfl <;> (repeat' (first | exact trivial | refine ⟨⟨_, rfl, ?_⟩, ?_⟩ | exact OLe.rfl | refine OLe.cells ?_ | exact VLe.rfl | exact VLes.rfl | exact VLes.nil | refine VLes.cons ?_ ?_ | refine VLe.agg ?_ | refine VLe.tup ?_ | exact VLe.own | exact VLe.full | exact VLe.nils | exact VLe.any | exact VLe.clo | exact VLe.fn | refine VLe.intE ?_ | refine VLe.boolE ?_ | refine VLe.sliceE ?_ | refine VLe.ownE ?_ | refine VLe.ownO ?_ | refine VLe.fullE ?_ | refine VLe.nilsE ?_ | refine OLe.row ?_)))
        · rfl
      · refine ac_cond rfl (fun hb => by cases hb) (fun _ => ?_)
        refine ac_skip ?_
        show ∃ a, _ ∧ Weak _ _ _
        refine ⟨(if k == 2 then w64 (b + 1) else b), ?_, ?_⟩
        rotate_left
        · simp only [hb1, if_true, Bool.false_eq_true, if_false]
          (refine weak_of ?_ ?_ rfl rfl rfl <;> (repeat' (first | exact trivial | refine ⟨⟨_, rfl, ?_⟩, ?_⟩ | exact OLe.rfl | refine OLe.cells ?_ | exact VLe.rfl | exact VLes.rfl | exact VLes.nil | refine VLes.cons ?_ ?_ | refine VLe.agg ?_ | refine VLe.tup ?_ | exact VLe.own | exact VLe.full | exact VLe.nils | exact VLe.any | exact VLe.clo | exact VLe.fn | refine VLe.intE ?_ | refine VLe.boolE ?_ | refine VLe.sliceE ?_ | refine VLe.ownE ?_ | refine VLe.ownO ?_ | refine VLe.fullE ?_ | refine VLe.nilsE ?_ | refine OLe.row ?_)))
        · rfl
    · subst hj
      refine ac_seq ?_
      refine ac_ts mixed ?_
      first | refine t_fieldAddr fld34_3 rfl rfl rfl ?_ | refine t_fieldAddr_c fld34_3 rfl rfl rfl rfl rfl ?_
      first | refine t_load1 ty32 rfl rfl rfl rfl rfl ?_ | refine t_load1c ty32 rfl rfl rfl rfl ?_
      refine t_len rfl sli32 rfl (by constructor) rfl rfl ?_
      refine t_move rfl rfl rfl ?_
      refine tr_nil ?_
      refine ac_weak (weak_row (L := 100) (l := 7) (j := 4) (sz := 5) (e := 34) (es := []) rfl rfl rfl VLe.nilfull rfl) ?_
      refine ac_range mixed ((dTms l).length) (fun i => [(6, .ptr 6 0), (7, .ptr 7 0), (1, .d (.int .i64 (if k == 2 then w64 (b + 1) else b))), (3, .ptr 1002 0), (32, .d (.slice (dTms l)))]) (fun i => (6, some (.cells [.d (.int .i64 0), .d (.int .i64 0), .d (.int .i64 0), .d .nils, .d .nils] 34)) :: (7, some (.cells [.d (.int .i64 k), .d (.int .i64 ix), .d (.int .i64 ty.kind), .d (.slice (dTys ty.args)), .own (dTms (rebuilds step (l.take i) (if k == 2 then w64 (b + 1) else b))) 100] 34)) :: (100, some (.row (dTms (rebuilds step (l.take i) (if k == 2 then w64 (b + 1) else b))).length 5 34)) :: someO [(1001, .cells [.clo g [.ptr 1003 0, .ptr 1004 0]] 89), (1002, .cells [.clo 71 [.ptr 1001 0, .ptr 1002 0]] 90), (1003, .cells [.d c1] t1), (1004, .cells [.d d1, .d d2, .d d3, .d d4, .d d5] t2)]) (fun i => [6, 7, 100, 1001, 1002, 1003, 1004]) (fun i => True) trivial ?_ (by first | omega | (simp only [dTys_len, dTms_len, dInts_len, List.length_append, List.length_cons, List.length_nil, List.length_take]; omega)) rfl (fun i => ⟨rfl, rfl⟩) (fun i hi hI => ?_) (fun hI => ?_)
      · (refine weak_of ?_ ?_ rfl rfl rfl <;> (repeat' (first | exact trivial | refine ⟨⟨_, rfl, ?_⟩, ?_⟩ | exact OLe.rfl | refine OLe.cells ?_ | exact VLe.rfl | exact VLes.rfl | exact VLes.nil | refine VLes.cons ?_ ?_ | refine VLe.agg ?_ | refine VLe.tup ?_ | exact VLe.own | exact VLe.full | exact VLe.nils | exact VLe.any | exact VLe.clo | exact VLe.fn | refine VLe.intE ?_ | refine VLe.boolE ?_ | refine VLe.sliceE ?_ | refine VLe.ownE ?_ | refine VLe.ownO ?_ | refine VLe.fullE ?_ | refine VLe.nilsE ?_ | refine OLe.row ?_)))
      · rw [dTms_len] at hi
        have hg : l[i]? = some l[i] := List.getElem?_eq_getElem hi
        have hget := dTms_get hg
        have hm := List.getElem_mem hi
        have hsz := bigTms_mem hm
        refine ac_ts mixed ?_
        refine t_indexAddr sli32 rfl (by constructor) rfl (Int.natCast_nonneg _) hget rfl rfl rfl ?_
        first | refine t_load ty34 rfl rfl rfl rfl rfl rfl ?_ | refine s_loadWc ty34 rfl rfl rfl rfl ?_ | refine t_loadN (us := [_, _, _, _, _]) ty34 rfl rfl rfl rfl rfl rfl ?_ | refine t_loadNc (us := [_, _, _, _, _]) ty34 rfl rfl rfl rfl rfl ?_
        refine s_alloc 9 zer34 rfl rfl rfl rfl ?_
        first | refine s_storeW ty34 rfl rfl rfl rfl rfl rfl rfl ?_ | refine s_store (ws := [_, _, _, _, _]) ty34 rfl rfl rfl rfl rfl rfl rfl rfl ?_
        refine tr_nil ?_
        refine ac_d mixed ?_
        first | refine t_fieldAddr fld34_3 rfl rfl rfl ?_ | refine t_fieldAddr_c fld34_3 rfl rfl rfl rfl rfl ?_
        first | refine t_load1 ty32 rfl rfl rfl rfl rfl ?_ | refine t_load1c ty32 rfl rfl rfl rfl ?_
        first | refine t_load1 ty90 rfl rfl rfl rfl rfl ?_ | refine t_load1c ty90 rfl rfl rfl rfl ?_
        first | refine t_load ty34 rfl rfl rfl rfl rfl rfl ?_ | refine s_loadWc ty34 rfl rfl rfl rfl ?_ | refine t_loadN (us := [_, _, _, _, _]) ty34 rfl rfl rfl rfl rfl rfl ?_ | refine t_loadNc (us := [_, _, _, _, _]) ty34 rfl rfl rfl rfl rfl ?_
        refine t_move rfl rfl rfl ?_
        first | refine s_callS rfl (.inl rfl) rfl .rfl (ih _ hm (by omega) _) rfl rfl rfl rfl rfl ?_ | refine s_callS rfl (.inl rfl) rfl (by (repeat' (first | exact VLes.rfl | exact VLes.nil | exact VLe.rfl | refine VLes.cons ?_ ?_ | exact VLe.own | exact VLe.full | exact VLe.nils | refine VLe.agg ?_ | exact VLe.fullE (dTms_one _) | exact VLe.fullE (dTms_two _ _) | exact VLe.fullE (dTms_three _ _ _) | exact VLe.fullE (dTys_one _) | exact VLe.fullE (dTys_two _ _) | exact VLe.fullE (dTys_three _ _ _)))) (ih _ hm (by omega) _) rfl rfl rfl rfl rfl ?_
        first | refine t_buildSlice sli32 (Opds.ofL rfl) (.cons (.agg .rfl) .nil) (by intro x hx; simp only [List.mem_cons, List.not_mem_nil, or_false] at hx; rcases hx with rfl <;> rfl) rfl rfl rfl rfl ?_ | refine t_buildSlice sli32 (Opds.ofL rfl) (Elems.ofL rfl) (by intro x hx; simp only [List.mem_cons, List.not_mem_nil, or_false] at hx; rcases hx with rfl <;> rfl) rfl rfl rfl rfl ?_
        first | refine t_append_own rfl sli32 rfl rfl (by constructor) rfl (by (first | exact dTys_sz _ | exact dTms_sz _ | exact dInts_sz _ | exact sz_nil | exact sz_one rfl | exact sz_app (dTys_sz _) (sz_one rfl) | exact sz_app (dTms_sz _) (sz_one rfl))) (by (first | exact dTys_sz _ | exact dTms_sz _ | exact dInts_sz _ | exact sz_nil | exact sz_one rfl | exact sz_app (dTys_sz _) (sz_one rfl) | exact sz_app (dTms_sz _) (sz_one rfl))) (by simp only [dTms_len, rebuilds_map, List.length_map, List.length_take, List.length_cons, List.length_nil]; omega) rfl rfl rfl rfl ?_ | refine t_append rfl sli32 rfl (by first | exact VLe.nilfull | exact VLe.rfl) rfl (by constructor) (by (first | exact dTys_sz _ | exact dTms_sz _ | exact dInts_sz _ | exact sz_nil | exact sz_one rfl | exact sz_app (dTys_sz _) (sz_one rfl) | exact sz_app (dTms_sz _) (sz_one rfl))) (by (first | exact dTys_sz _ | exact dTms_sz _ | exact dInts_sz _ | exact sz_nil | exact sz_one rfl | exact sz_app (dTys_sz _) (sz_one rfl) | exact sz_app (dTms_sz _) (sz_one rfl))) (by simp only [dTms_len, rebuilds_map, List.length_map, List.length_take, List.length_cons, List.length_nil]; omega) rfl rfl rfl rfl rfl ?_
        first | refine t_fieldAddr fld34_3 rfl rfl rfl ?_ | refine t_fieldAddr_c fld34_3 rfl rfl rfl rfl rfl ?_
        first | refine s_storeW ty32 rfl rfl rfl rfl rfl rfl rfl ?_ | refine s_store (ws := [_, _, _, _, _]) ty32 rfl rfl rfl rfl rfl rfl rfl rfl ?_
        refine tr_nil ⟨by kernel_rfl, ?_⟩
        show _ ∧ Weak _ _ _
        refine ⟨trivial, ?_⟩
        rw [rebuilds_take step _ hg]
        (refine weak_of ?_ ?_ rfl rfl rfl <;> (repeat' (first | exact trivial | refine ⟨⟨_, rfl, ?_⟩, ?_⟩ | exact OLe.rfl | refine OLe.cells ?_ | exact VLe.rfl | exact VLes.rfl | exact VLes.nil | refine VLes.cons ?_ ?_ | refine VLe.agg ?_ | refine VLe.tup ?_ | exact VLe.own | exact VLe.full | exact VLe.nils | exact VLe.any | exact VLe.clo | exact VLe.fn | refine VLe.intE ?_ | refine VLe.boolE ?_ | refine VLe.sliceE ?_ | refine VLe.ownE ?_ | refine VLe.ownO ?_ | refine VLe.fullE ?_ | refine VLe.nilsE ?_ | refine OLe.row ?_)))
      · skip
        change AC _ _ _ _ _
        refine ac_ts mixed ?_
        first | refine t_load ty34 rfl rfl rfl rfl rfl rfl ?_ | refine s_loadWc ty34 rfl rfl rfl rfl ?_ | refine t_loadN (us := [_, _, _, _, _]) ty34 rfl rfl rfl rfl rfl rfl ?_ | refine t_loadNc (us := [_, _, _, _, _]) ty34 rfl rfl rfl rfl rfl ?_
        first | refine s_storeW ty34 rfl rfl rfl rfl rfl rfl rfl ?_ | refine s_store (ws := [_, _, _, _, _]) ty34 rfl rfl rfl rfl rfl rfl rfl rfl ?_
        refine tr_nil ?_
        refine ac_ret ?_
        refine ⟨.inr rfl, _, ⟨_, _, _, _, _, rfl, rfl, rfl, .inl (retAgg ty34 rfl), rfl⟩, ?_, ?_⟩
        · rw [← hr]
          simp only [Trm.rebuild, hb0, Bool.false_eq_true, if_false]
          (repeat' (first | exact VLe.rfl | exact VLes.rfl | exact VLes.nil | refine VLes.cons ?_ ?_ | refine VLe.agg ?_ | refine VLe.tup ?_ | exact VLe.own | exact VLe.full | exact VLe.nils | exact VLe.any | exact VLe.clo | exact VLe.fn | refine VLe.intE ?_ | refine VLe.boolE ?_ | refine VLe.sliceE ?_ | refine VLe.ownE ?_ | refine VLe.ownO ?_ | refine VLe.fullE ?_ | refine VLe.nilsE ?_))
          rw [dTms_len, List.take_length]; rfl
        · (refine sigTo_at ?_; (repeat' (first | exact trivial | refine ⟨⟨_, rfl, ?_⟩, ?_⟩ | exact OLe.rfl | refine OLe.cells ?_ | exact VLe.rfl | exact VLes.rfl | exact VLes.nil | refine VLes.cons ?_ ?_ | exact VLe.any | exact VLe.own | exact VLe.full | exact VLe.clo | exact VLe.fn | refine VLe.intE ?_ | refine VLe.boolE ?_ | refine VLe.sliceE ?_ | refine VLe.ownE ?_ | refine VLe.fullE ?_ | refine VLe.nilsE ?_)))
theorem RebuildB_ev {g : FuncId} (c1 d1 d2 d3 d4 d5 : D) (t1 t2 : Nat) (step : Int → Int → Trm)
    (hgo : ∀ i b, Ev Tryd.prog GL g ([.d (.int .i64 i), .d (.int .i64 b)] ++ [.ptr 1003 0, .ptr 1004 0]) [(1003, .cells [.d c1] t1), (1004, .cells [.d d1, .d d2, .d d3, .d d4, .d d5] t2)] (vTm (step i b)) [(1003, .cells [.d c1] t1), (1004, .cells [.d d1, .d d2, .d d3, .d d4, .d d5] t2)])
    (t : Trm) (ht : t.big ≤ 1000000) : Ev Tryd.prog GL 58 ([vTm t, .clo g [.ptr 1003 0, .ptr 1004 0]] ++ []) [(1003, .cells [.d c1] t1), (1004, .cells [.d d1, .d d2, .d d3, .d d4, .d d5] t2)] (vTm (t.rebuild step 0)) [(1003, .cells [.d c1] t1), (1004, .cells [.d d1, .d d2, .d d3, .d d4, .d d5] t2)] := by
  refine ev_of_body (N := 10) (ks := _) (ρ0 := [(0, _), (1, _)]) (σ0 := _) (rs := [.cell 4 34]) Tryd.func58 rfl (by kernel_rfl) rfl rfl rfl rfl rfl rfl rfl rfl rfl rfl (fun E ι0 => ?_)
  refine ac_ts mixed ?_
  refine s_box 2 rfl rfl rfl rfl rfl ?_
  refine s_box 1001 rfl rfl rfl rfl rfl ?_
  refine s_alloc 4 zer34 rfl rfl rfl rfl ?_
  refine tr_nil ?_
  refine ac_ts mixed ?_
  refine s_alloc 1002 zer90 rfl rfl rfl rfl ?_
  refine tr_nil ?_
  refine ac_ts mixed ?_
  refine t_makeFunc (Opds.ofL rfl) rfl rfl ?_
  first | refine s_storeW ty90 rfl rfl rfl rfl rfl rfl rfl ?_ | refine s_store (ws := [_]) ty90 rfl rfl rfl rfl rfl rfl rfl rfl ?_
  refine tr_nil ?_
  refine ac_ts mixed ?_
  first | refine t_load1 ty90 rfl rfl rfl rfl rfl ?_ | refine t_load1c ty90 rfl rfl rfl rfl ?_
  first | refine t_load ty34 rfl rfl rfl rfl rfl rfl ?_ | refine s_loadWc ty34 rfl rfl rfl rfl ?_ | refine t_loadN (us := [_, _, _, _, _]) ty34 rfl rfl rfl rfl rfl rfl ?_ | refine t_loadNc (us := [_, _, _, _, _]) ty34 rfl rfl rfl rfl rfl ?_
  first | refine s_callS rfl (.inl rfl) rfl .rfl (RebuildB1_ev c1 d1 d2 d3 d4 d5 t1 t2 step hgo t ht 0) rfl rfl rfl rfl rfl ?_ | refine s_callS rfl (.inl rfl) rfl (by (repeat' (first | exact VLes.rfl | exact VLes.nil | exact VLe.rfl | refine VLes.cons ?_ ?_ | exact VLe.own | exact VLe.full | exact VLe.nils | refine VLe.agg ?_ | exact VLe.fullE (dTms_one _) | exact VLe.fullE (dTms_two _ _) | exact VLe.fullE (dTms_three _ _ _) | exact VLe.fullE (dTys_one _) | exact VLe.fullE (dTys_two _ _) | exact VLe.fullE (dTys_three _ _ _)))) (RebuildB1_ev c1 d1 d2 d3 d4 d5 t1 t2 step hgo t ht 0) rfl rfl rfl rfl rfl ?_
  first | refine s_storeW ty34 rfl rfl rfl rfl rfl rfl rfl ?_ | refine s_store (ws := [_, _, _, _, _]) ty34 rfl rfl rfl rfl rfl rfl rfl rfl ?_
  refine tr_nil ?_
  refine ac_ret ?_
  refine ⟨.inr rfl, _, ⟨_, _, _, _, _, rfl, rfl, rfl, .inl (retAgg ty34 rfl), rfl⟩, ?_, ?_⟩
  · (repeat' (first | exact VLe.rfl | exact VLes.rfl | exact VLes.nil | refine VLes.cons ?_ ?_ | refine VLe.agg ?_ | refine VLe.tup ?_ | exact VLe.own | exact VLe.full | exact VLe.nils | exact VLe.any | exact VLe.clo | exact VLe.fn | refine VLe.intE ?_ | refine VLe.boolE ?_ | refine VLe.sliceE ?_ | refine VLe.ownE ?_ | refine VLe.ownO ?_ | refine VLe.fullE ?_ | refine VLe.nilsE ?_))
  · (refine sigTo_at ?_; (repeat' (first | exact trivial | refine ⟨⟨_, rfl, ?_⟩, ?_⟩ | exact OLe.rfl | refine OLe.cells ?_ | exact VLe.rfl | exact VLes.rfl | exact VLes.nil | refine VLes.cons ?_ ?_ | exact VLe.any | exact VLe.own | exact VLe.full | exact VLe.clo | exact VLe.fn | refine VLe.intE ?_ | refine VLe.boolE ?_ | refine VLe.sliceE ?_ | refine VLe.ownE ?_ | refine VLe.fullE ?_ | refine VLe.nilsE ?_)))
theorem Lift1_ev (a y i b : Int) : Ev Tryd.prog GL 64 ([.d (.int .i64 i), .d (.int .i64 b)] ++ [.ptr 1003 0, .ptr 1004 0]) [(1003, .cells [.d (.int .i64 a)] 3), (1004, .cells [.d (.int .i64 y)] 3)] (vTm (liftAt a y i b)) [(1003, .cells [.d (.int .i64 a)] 3), (1004, .cells [.d (.int .i64 y)] 3)] := by
  -- live at cond 0: t0, t6(ptr)
  refine ev_of_body (N := 17) (ks := _) (ρ0 := [(0, _), (1, _), (2, _), (3, _)]) (σ0 := _) (rs := [.cell 6 34]) Tryd.func64 rfl (by kernel_rfl) rfl rfl rfl rfl rfl rfl rfl rfl rfl rfl (fun E ι0 => ?_)
  refine ac_ts mixed ?_
  refine s_alloc 6 zer34 rfl rfl rfl rfl ?_
  refine tr_nil ?_
  refine ac_seq ?_
  refine ac_ts mixed ?_
  refine t_move rfl rfl rfl ?_
  refine t_move rfl rfl rfl ?_
  refine t_bin rfl rfl .sub rfl rfl ?_
  first | refine t_load1 ty3 rfl rfl rfl rfl rfl ?_ | refine t_load1c ty3 rfl rfl rfl rfl ?_
  refine t_bin rfl rfl .geq rfl rfl ?_
  refine tr_nil ?_
  refine ac_bool (fun hb0 => ?_) (fun hb0 => ?_)
  · refine ac_cond rfl (fun _ => ?_) (fun hb => by cases hb)
    refine ac_t mixed ?_
    refine t_move rfl rfl rfl ?_
    first | refine t_load1 ty3 rfl rfl rfl rfl rfl ?_ | refine t_load1c ty3 rfl rfl rfl rfl ?_
    refine t_bin rfl rfl .add rfl rfl ?_
    refine t_assign rfl rfl rfl ?_
    refine tr_nil ?_
    change AC _ _ _ _ _
    refine ac_ts mixed ?_
    refine t_move rfl rfl rfl ?_
    first | refine s_callF rfl .rfl (Var_ev _) rfl rfl ?_ | refine s_callF rfl (by (repeat' (first | exact VLes.rfl | exact VLes.nil | exact VLe.rfl | refine VLes.cons ?_ ?_ | exact VLe.own | exact VLe.full | exact VLe.nils | refine VLe.agg ?_ | exact VLe.fullE (dTms_one _) | exact VLe.fullE (dTms_two _ _) | exact VLe.fullE (dTms_three _ _ _) | exact VLe.fullE (dTys_one _) | exact VLe.fullE (dTys_two _ _) | exact VLe.fullE (dTys_three _ _ _)))) (Var_ev _) rfl rfl ?_
    first | refine s_storeW ty34 rfl rfl rfl rfl rfl rfl rfl ?_ | refine s_store (ws := [_, _, _, _, _]) ty34 rfl rfl rfl rfl rfl rfl rfl rfl ?_
    refine tr_nil ?_
    refine ac_ret ?_
    refine ⟨.inr rfl, _, ⟨_, _, _, _, _, rfl, rfl, rfl, .inl (retAgg ty34 rfl), rfl⟩, ?_, ?_⟩
    · have e : decide (w64 (i - b) ≥ a) = decide (IntKind.i64.wrap (i - b) ≥ a) := rfl
      simp only [liftAt, e, hb0, if_true, Bool.false_eq_true, if_false]
      exact VLe.rfl
    · (refine sigTo_at ?_; (repeat' (first | exact trivial | refine ⟨⟨_, rfl, ?_⟩, ?_⟩ | exact OLe.rfl | refine OLe.cells ?_ | exact VLe.rfl | exact VLes.rfl | exact VLes.nil | refine VLes.cons ?_ ?_ | exact VLe.any | exact VLe.own | exact VLe.full | exact VLe.clo | exact VLe.fn | refine VLe.intE ?_ | refine VLe.boolE ?_ | refine VLe.sliceE ?_ | refine VLe.ownE ?_ | refine VLe.fullE ?_ | refine VLe.nilsE ?_)))
  · refine ac_cond rfl (fun hb => by cases hb) (fun _ => ?_)
    refine ac_skip ?_
    change AC _ _ _ _ _
    refine ac_ts mixed ?_
    refine t_move rfl rfl rfl ?_
    first | refine s_callF rfl .rfl (Var_ev _) rfl rfl ?_ | refine s_callF rfl (by (repeat' (first | exact VLes.rfl | exact VLes.nil | exact VLe.rfl | refine VLes.cons ?_ ?_ | exact VLe.own | exact VLe.full | exact VLe.nils | refine VLe.agg ?_ | exact VLe.fullE (dTms_one _) | exact VLe.fullE (dTms_two _ _) | exact VLe.fullE (dTms_three _ _ _) | exact VLe.fullE (dTys_one _) | exact VLe.fullE (dTys_two _ _) | exact VLe.fullE (dTys_three _ _ _)))) (Var_ev _) rfl rfl ?_
    first | refine s_storeW ty34 rfl rfl rfl rfl rfl rfl rfl ?_ | refine s_store (ws := [_, _, _, _, _]) ty34 rfl rfl rfl rfl rfl rfl rfl rfl ?_
    refine tr_nil ?_
    refine ac_ret ?_
    refine ⟨.inr rfl, _, ⟨_, _, _, _, _, rfl, rfl, rfl, .inl (retAgg ty34 rfl), rfl⟩, ?_, ?_⟩
    · have e : decide (w64 (i - b) ≥ a) = decide (IntKind.i64.wrap (i - b) ≥ a) := rfl
      simp only [liftAt, e, hb0, if_true, Bool.false_eq_true, if_false]
      exact VLe.rfl
    · (refine sigTo_at ?_; (repeat' (first | exact trivial | refine ⟨⟨_, rfl, ?_⟩, ?_⟩ | exact OLe.rfl | refine OLe.cells ?_ | exact VLe.rfl | exact VLes.rfl | exact VLes.nil | refine VLes.cons ?_ ?_ | exact VLe.any | exact VLe.own | exact VLe.full | exact VLe.clo | exact VLe.fn | refine VLe.intE ?_ | refine VLe.boolE ?_ | refine VLe.sliceE ?_ | refine VLe.ownE ?_ | refine VLe.fullE ?_ | refine VLe.nilsE ?_)))
theorem Lift_ev (t : Trm) (ht : t.big ≤ 1000000) (a y : Int) : Ev Tryd.prog GL 43 [vTm t, .d (.int .i64 a), .d (.int .i64 y)] [] (vTm (t.lift a y)) [] := by
  refine ev_of_body (N := 10) (ks := []) (ρ0 := [(0, _), (1, _), (2, _)]) (σ0 := []) (rs := [.cell 6 34]) Tryd.func43 rfl (by kernel_rfl) rfl rfl rfl rfl rfl rfl rfl rfl rfl rfl (fun E ι0 => ?_)
  refine ac_ts mixed ?_
  refine s_box 3 rfl rfl rfl rfl rfl ?_
  refine s_box 1003 rfl rfl rfl rfl rfl ?_
  refine s_box 1004 rfl rfl rfl rfl rfl ?_
  refine s_alloc 6 zer34 rfl rfl rfl rfl ?_
  refine tr_nil ?_
  refine ac_ts mixed ?_
  first | refine t_load ty34 rfl rfl rfl rfl rfl rfl ?_ | refine s_loadWc ty34 rfl rfl rfl rfl ?_ | refine t_loadN (us := [_, _, _, _, _]) ty34 rfl rfl rfl rfl rfl rfl ?_ | refine t_loadNc (us := [_, _, _, _, _]) ty34 rfl rfl rfl rfl rfl ?_
  refine t_makeFunc (Opds.ofL rfl) rfl rfl ?_
  first | refine s_callSF rfl .rfl (RebuildA_ev (.int .i64 a) (.int .i64 y) 3 3 (liftAt a y) (fun i b => Lift1_ev a y i b) t ht) rfl rfl rfl rfl rfl ?_ | refine s_callSF rfl (by (repeat' (first | exact VLes.rfl | exact VLes.nil | exact VLe.rfl | refine VLes.cons ?_ ?_ | exact VLe.own | exact VLe.full | exact VLe.nils | refine VLe.agg ?_ | exact VLe.fullE (dTms_one _) | exact VLe.fullE (dTms_two _ _) | exact VLe.fullE (dTms_three _ _ _) | exact VLe.fullE (dTys_one _) | exact VLe.fullE (dTys_two _ _) | exact VLe.fullE (dTys_three _ _ _)))) (RebuildA_ev (.int .i64 a) (.int .i64 y) 3 3 (liftAt a y) (fun i b => Lift1_ev a y i b) t ht) rfl rfl rfl rfl rfl ?_
  first | refine s_storeW ty34 rfl rfl rfl rfl rfl rfl rfl ?_ | refine s_store (ws := [_, _, _, _, _]) ty34 rfl rfl rfl rfl rfl rfl rfl rfl ?_
  refine tr_nil ?_
  refine ac_ret ?_
  refine ⟨.inr rfl, _, ⟨_, _, _, _, _, rfl, rfl, rfl, .inl (retAgg ty34 rfl), rfl⟩, ?_, ?_⟩
  · (repeat' (first | exact VLe.rfl | exact VLes.rfl | exact VLes.nil | refine VLes.cons ?_ ?_ | refine VLe.agg ?_ | refine VLe.tup ?_ | exact VLe.own | exact VLe.full | exact VLe.nils | exact VLe.any | exact VLe.clo | exact VLe.fn | refine VLe.intE ?_ | refine VLe.boolE ?_ | refine VLe.sliceE ?_ | refine VLe.ownE ?_ | refine VLe.ownO ?_ | refine VLe.fullE ?_ | refine VLe.nilsE ?_))
  · (intro l o h; cases h)
theorem Put1_ev (a : Int) (s : Trm) (hsz : s.big ≤ 1000000) (i b : Int) : Ev Tryd.prog GL 59 ([.d (.int .i64 i), .d (.int .i64 b)] ++ [.ptr 1003 0, .ptr 1004 0]) [(1003, .cells [.d (.int .i64 a)] 3), (1004, .cells ((dTm s).map V.d) 34)] (vTm (putAt a s i b)) [(1003, .cells [.d (.int .i64 a)] 3), (1004, .cells ((dTm s).map V.d) 34)] := by
  -- live at block 0: t0, t6(ptr)
  -- live at cond 0: t0, t6(ptr)
  -- live at cond 1: t0, t6(ptr)
  refine ev_of_body (N := 29) (ks := _) (ρ0 := [(0, _), (1, _), (2, _), (3, _)]) (σ0 := _) (rs := [.cell 6 34]) Tryd.func59 rfl (by kernel_rfl) rfl rfl rfl rfl rfl rfl rfl rfl rfl rfl (fun E ι0 => ?_)
  refine ac_ts mixed ?_
  refine s_alloc 6 zer34 rfl rfl rfl rfl ?_
  refine tr_nil ?_
  refine ac_seq ?_
  refine ac_ts mixed ?_
  refine t_move rfl rfl rfl ?_
  refine t_move rfl rfl rfl ?_
  refine t_bin rfl rfl .sub rfl rfl ?_
  refine t_assign rfl rfl rfl ?_
  refine tr_nil ?_
  refine ac_block ?_
  refine ac_ts mixed ?_
  refine t_move rfl rfl rfl ?_
  first | refine t_load1 ty3 rfl rfl rfl rfl rfl ?_ | refine t_load1c ty3 rfl rfl rfl rfl ?_
  refine t_bin rfl rfl .eql rfl rfl ?_
  refine t_assign rfl rfl rfl ?_
  refine tr_nil ?_
  refine ac_bool (fun hb0 => ?_) (fun hb0 => ?_)
  · refine ac_cond rfl (fun _ => ?_) (fun hb => by cases hb)
    refine ac_ts mixed ?_
    first | refine t_load ty34 rfl rfl rfl rfl rfl rfl ?_ | refine s_loadWc ty34 rfl rfl rfl rfl ?_ | refine t_loadN (us := [_, _, _, _, _]) ty34 rfl rfl rfl rfl rfl rfl ?_ | refine t_loadNc (us := [_, _, _, _, _]) ty34 rfl rfl rfl rfl rfl ?_
    first | refine t_load1 ty3 rfl rfl rfl rfl rfl ?_ | refine t_load1c ty3 rfl rfl rfl rfl ?_
    refine t_move rfl rfl rfl ?_
    refine t_bin rfl rfl .add rfl rfl ?_
    first | refine s_callF rfl .rfl (Lift_ev s hsz _ _) rfl rfl ?_ | refine s_callF rfl (by (repeat' (first | exact VLes.rfl | exact VLes.nil | exact VLe.rfl | refine VLes.cons ?_ ?_ | exact VLe.own | exact VLe.full | exact VLe.nils | refine VLe.agg ?_ | exact VLe.fullE (dTms_one _) | exact VLe.fullE (dTms_two _ _) | exact VLe.fullE (dTms_three _ _ _) | exact VLe.fullE (dTys_one _) | exact VLe.fullE (dTys_two _ _) | exact VLe.fullE (dTys_three _ _ _)))) (Lift_ev s hsz _ _) rfl rfl ?_
    first | refine s_storeW ty34 rfl rfl rfl rfl rfl rfl rfl ?_ | refine s_store (ws := [_, _, _, _, _]) ty34 rfl rfl rfl rfl rfl rfl rfl rfl ?_
    refine tr_nil ?_
    refine ac_ret ?_
    refine ⟨.inr rfl, _, ⟨_, _, _, _, _, rfl, rfl, rfl, .inl (retAgg ty34 rfl), rfl⟩, ?_, ?_⟩
    · have e : (w64 (i - b) == a) = (IntKind.i64.wrap (i - b) == a) := rfl
      simp only [putAt, e, hb0, if_true]
      exact VLe.rfl
    · (refine sigTo_at ?_; (repeat' (first | exact trivial | refine ⟨⟨_, rfl, ?_⟩, ?_⟩ | exact OLe.rfl | refine OLe.cells ?_ | exact VLe.rfl | exact VLes.rfl | exact VLes.nil | refine VLes.cons ?_ ?_ | exact VLe.any | exact VLe.own | exact VLe.full | exact VLe.clo | exact VLe.fn | refine VLe.intE ?_ | refine VLe.boolE ?_ | refine VLe.sliceE ?_ | refine VLe.ownE ?_ | refine VLe.fullE ?_ | refine VLe.nilsE ?_)))
  · refine ac_cond rfl (fun hb => by cases hb) (fun _ => ?_)
    refine ac_ts mixed ?_
    refine t_move rfl rfl rfl ?_
    first | refine t_load1 ty3 rfl rfl rfl rfl rfl ?_ | refine t_load1c ty3 rfl rfl rfl rfl ?_
    refine t_bin rfl rfl .gtr rfl rfl ?_
    refine t_assign rfl rfl rfl ?_
    refine tr_nil ?_
    refine ac_bool (fun hb1 => ?_) (fun hb1 => ?_)
    · refine ac_cond rfl (fun _ => ?_) (fun hb => by cases hb)
      refine ac_ts mixed ?_
      refine t_move rfl rfl rfl ?_
      refine t_bin rfl rfl .sub rfl rfl ?_
      first | refine s_callF rfl .rfl (Var_ev _) rfl rfl ?_ | refine s_callF rfl (by (repeat' (first | exact VLes.rfl | exact VLes.nil | exact VLe.rfl | refine VLes.cons ?_ ?_ | exact VLe.own | exact VLe.full | exact VLe.nils | refine VLe.agg ?_ | exact VLe.fullE (dTms_one _) | exact VLe.fullE (dTms_two _ _) | exact VLe.fullE (dTms_three _ _ _) | exact VLe.fullE (dTys_one _) | exact VLe.fullE (dTys_two _ _) | exact VLe.fullE (dTys_three _ _ _)))) (Var_ev _) rfl rfl ?_
      first | refine s_storeW ty34 rfl rfl rfl rfl rfl rfl rfl ?_ | refine s_store (ws := [_, _, _, _, _]) ty34 rfl rfl rfl rfl rfl rfl rfl rfl ?_
      refine tr_nil ?_
      refine ac_ret ?_
      refine ⟨.inr rfl, _, ⟨_, _, _, _, _, rfl, rfl, rfl, .inl (retAgg ty34 rfl), rfl⟩, ?_, ?_⟩
      · have e : (w64 (i - b) == a) = (IntKind.i64.wrap (i - b) == a) := rfl
        have e2 : decide (w64 (i - b) > a) = decide (IntKind.i64.wrap (i - b) > a) := rfl
        simp only [putAt, e, e2, hb0, hb1, if_true, Bool.false_eq_true, if_false]
        exact VLe.rfl
      · (refine sigTo_at ?_; (repeat' (first | exact trivial | refine ⟨⟨_, rfl, ?_⟩, ?_⟩ | exact OLe.rfl | refine OLe.cells ?_ | exact VLe.rfl | exact VLes.rfl | exact VLes.nil | refine VLes.cons ?_ ?_ | exact VLe.any | exact VLe.own | exact VLe.full | exact VLe.clo | exact VLe.fn | refine VLe.intE ?_ | refine VLe.boolE ?_ | refine VLe.sliceE ?_ | refine VLe.ownE ?_ | refine VLe.fullE ?_ | refine VLe.nilsE ?_)))
    · refine ac_cond rfl (fun hb => by cases hb) (fun _ => ?_)
      refine ac_skip ?_
      change AC _ _ _ _ _
      refine ac_ts mixed ?_
      refine t_move rfl rfl rfl ?_
      first | refine s_callF rfl .rfl (Var_ev _) rfl rfl ?_ | refine s_callF rfl (by (repeat' (first | exact VLes.rfl | exact VLes.nil | exact VLe.rfl | refine VLes.cons ?_ ?_ | exact VLe.own | exact VLe.full | exact VLe.nils | refine VLe.agg ?_ | exact VLe.fullE (dTms_one _) | exact VLe.fullE (dTms_two _ _) | exact VLe.fullE (dTms_three _ _ _) | exact VLe.fullE (dTys_one _) | exact VLe.fullE (dTys_two _ _) | exact VLe.fullE (dTys_three _ _ _)))) (Var_ev _) rfl rfl ?_
      first | refine s_storeW ty34 rfl rfl rfl rfl rfl rfl rfl ?_ | refine s_store (ws := [_, _, _, _, _]) ty34 rfl rfl rfl rfl rfl rfl rfl rfl ?_
      refine tr_nil ?_
      refine ac_ret ?_
      refine ⟨.inr rfl, _, ⟨_, _, _, _, _, rfl, rfl, rfl, .inl (retAgg ty34 rfl), rfl⟩, ?_, ?_⟩
      · have e : (w64 (i - b) == a) = (IntKind.i64.wrap (i - b) == a) := rfl
        have e2 : decide (w64 (i - b) > a) = decide (IntKind.i64.wrap (i - b) > a) := rfl
        simp only [putAt, e, e2, hb0, hb1, if_true, Bool.false_eq_true, if_false]
        exact VLe.rfl
      · (refine sigTo_at ?_; (repeat' (first | exact trivial | refine ⟨⟨_, rfl, ?_⟩, ?_⟩ | exact OLe.rfl | refine OLe.cells ?_ | exact VLe.rfl | exact VLes.rfl | exact VLes.nil | refine VLes.cons ?_ ?_ | exact VLe.any | exact VLe.own | exact VLe.full | exact VLe.clo | exact VLe.fn | refine VLe.intE ?_ | refine VLe.boolE ?_ | refine VLe.sliceE ?_ | refine VLe.ownE ?_ | refine VLe.fullE ?_ | refine VLe.nilsE ?_)))
theorem Put_ev (t : Trm) (ht : t.big ≤ 1000000) (a : Int) (s : Trm) (hsz : s.big ≤ 1000000) : Ev Tryd.prog GL 39 [vTm t, .d (.int .i64 a), vTm s] [] (vTm (t.put a s)) [] := by
  refine ev_of_body (N := 10) (ks := []) (ρ0 := [(0, _), (1, _), (2, _)]) (σ0 := []) (rs := [.cell 6 34]) Tryd.func39 rfl (by kernel_rfl) rfl rfl rfl rfl rfl rfl rfl rfl rfl rfl (fun E ι0 => ?_)
  refine ac_ts mixed ?_
  refine s_box 3 rfl rfl rfl rfl rfl ?_
  refine s_box 1003 rfl rfl rfl rfl rfl ?_
  refine s_box 1004 rfl rfl rfl rfl rfl ?_
  refine s_alloc 6 zer34 rfl rfl rfl rfl ?_
  refine tr_nil ?_
  refine ac_ts mixed ?_
  first | refine t_load ty34 rfl rfl rfl rfl rfl rfl ?_ | refine s_loadWc ty34 rfl rfl rfl rfl ?_ | refine t_loadN (us := [_, _, _, _, _]) ty34 rfl rfl rfl rfl rfl rfl ?_ | refine t_loadNc (us := [_, _, _, _, _]) ty34 rfl rfl rfl rfl rfl ?_
  refine t_makeFunc (Opds.ofL rfl) rfl rfl ?_
  first | refine s_callSF rfl .rfl (RebuildB_ev (.int .i64 a) (.int .i64 s.kind) (.int .i64 s.index) (.int .i64 s.ty.kind) (.slice (dTys s.ty.args)) (.slice (dTms s.args)) 3 34 (putAt a s) (fun i b => Put1_ev a s hsz i b) t ht) rfl rfl rfl rfl rfl ?_ | refine s_callSF rfl (by (repeat' (first | exact VLes.rfl | exact VLes.nil | exact VLe.rfl | refine VLes.cons ?_ ?_ | exact VLe.own | exact VLe.full | exact VLe.nils | refine VLe.agg ?_ | exact VLe.fullE (dTms_one _) | exact VLe.fullE (dTms_two _ _) | exact VLe.fullE (dTms_three _ _ _) | exact VLe.fullE (dTys_one _) | exact VLe.fullE (dTys_two _ _) | exact VLe.fullE (dTys_three _ _ _)))) (RebuildB_ev (.int .i64 a) (.int .i64 s.kind) (.int .i64 s.index) (.int .i64 s.ty.kind) (.slice (dTys s.ty.args)) (.slice (dTms s.args)) 3 34 (putAt a s) (fun i b => Put1_ev a s hsz i b) t ht) rfl rfl rfl rfl rfl ?_
  first | refine s_storeW ty34 rfl rfl rfl rfl rfl rfl rfl ?_ | refine s_store (ws := [_, _, _, _, _]) ty34 rfl rfl rfl rfl rfl rfl rfl rfl ?_
  refine tr_nil ?_
  refine ac_ret ?_
  refine ⟨.inr rfl, _, ⟨_, _, _, _, _, rfl, rfl, rfl, .inl (retAgg ty34 rfl), rfl⟩, ?_, ?_⟩
  · (repeat' (first | exact VLe.rfl | exact VLes.rfl | exact VLes.nil | refine VLes.cons ?_ ?_ | refine VLe.agg ?_ | refine VLe.tup ?_ | exact VLe.own | exact VLe.full | exact VLe.nils | exact VLe.any | exact VLe.clo | exact VLe.fn | refine VLe.intE ?_ | refine VLe.boolE ?_ | refine VLe.sliceE ?_ | refine VLe.ownE ?_ | refine VLe.ownO ?_ | refine VLe.fullE ?_ | refine VLe.nilsE ?_))
  · (intro l o h; cases h)
end Go.AM

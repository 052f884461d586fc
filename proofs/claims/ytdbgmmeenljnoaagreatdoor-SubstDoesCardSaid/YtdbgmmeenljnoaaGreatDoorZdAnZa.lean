/-
  The laws SubstSizes and SubstLifts: what the printed functions reckon is true.
  What the references of types and terms reckon: forms, sizes, variables, lifted and put in.
  What the references of variables, lifting, lowering and putting reckon, at any index; how few nodes.
  The law SubstDoes: what the printed functions reckon is true.
-/
import Derived.Test.YtdbgmmeenljnoaaGreatDoorZdAnX
set_option linter.unusedVariables false
set_option linter.unusedSimpArgs false
set_option maxHeartbeats 4000000
namespace Go.AM
open Go
theorem putFEq {t s : Trm} {b : Nat} (hb : t.big ≤ 1000000) (hsb : s.big ≤ 1000000) (he : t.err = 0) (hse : s.err = 0) (hs : t.shape = true) (hi : t.idxB 536870912 = true) (hsi : s.idxB 536870912 = true) {a : Nat} (ha : a ≤ 4096)
    (hz : t.sz + t.cnt a 0 * (s.sz - 1) ≤ 4096) : subst_Put t a s = some (t.put a s, 0) := by
  have hsz := t.sz_le_big
  have hsz2 := s.sz_le_big
  have hp := s.sz_pos
  unfold subst_Put
  have w1 : within (a : Int) = true := by unfold within; rw [decide_eq_true (by omega), decide_eq_true (by omega)]; rfl
  have c0 := (count_eq a (by omega) hs hi (by omega)).1
  have n1 : t.near = true := by rw [near_eq]; exact hi
  have n2 : s.near = true := by rw [near_eq]; exact hsi
  have e1 : w64 ((s.sz : Int) - 1) = ((s.sz - 1 : Nat) : Int) := by rw [w64_id (by omega) (by omega)]; omega
  have e2 : w64 (((t.cnt a 0 : Nat) : Int) * ((s.sz - 1 : Nat) : Int)) = ((t.cnt a 0 * (s.sz - 1) : Nat) : Int) := by
    rw [← Int.natCast_mul, w64_id (by omega) (by omega)]
  have e3 : w64 ((t.sz : Int) + ((t.cnt a 0 * (s.sz - 1) : Nat) : Int)) = ((t.sz + t.cnt a 0 * (s.sz - 1) : Nat) : Int) := by
    rw [w64_id (by omega) (by omega)]; omega
  rw [bnd_eq (sizeTm t hb), he, bnd_eq (within_eq _), w1, bnd_eq (sizeTm s hsb), hse, bnd_eq (nearEq t (by omega)), n1, bnd_eq (nearEq s (by omega)), n2, bnd_eq (countEq t _ (by omega)), c0, bnd_eq (putEq t a s hb hsb)]
  simp only [if_true]
  rw [e1, e2, e3, decide_eq_false (by omega)]
  rfl
/-- The terms of the laws. -/
structure Made (g : List Typ) (x : Trm) (u : Typ) (n : Nat) : Prop where
  ty : HasT g x u
  sz : x.sz ≤ n
  big : x.big ≤ 64000
  sh : x.shape = true
  ix : x.idxB 536870912 = true
  er : x.err = 0
theorem made3 (L : List Int) {g : List Typ} (hg : ∀ u ∈ g, sm u) (hl : g.length ≤ 16) {t : Typ} (ht : sm t) (a : Nat) : Made g (mkTerm L 100 3 g t a).1 t 3560 ∧ (mkTerm L 100 3 g t a).1.sz + (mkTerm L 100 3 g t a).1.cnt 0 0 * 99 ≤ 3560 := by
  have hf : fuelOk 100 3 t := .inr ⟨by omega, by omega⟩
  have h1 := mkTerm_typed L 100 3 g t a ht hg (by omega) hf
  have h2 := mkTerm_wt L (w := 100) (by omega) 100 3 g t a ht hg hf
  have h3 := mkTerm_64k L 100 3 g t a (sm_ok ht) (fun u hu => sm_ok (hg u hu)) hf (by omega)
  have h4 : ww 100 (Int.toNat 3) t ≤ 3560 := by unfold ww; split <;> decide
  have h5 : (mkTerm L 100 3 g t a).1.sz + (mkTerm L 100 3 g t a).1.cnt 0 0 * 99 ≤ (mkTerm L 100 3 g t a).1.wt 100 0 := wt_cnt 99 (mkTerm L 100 3 g t a).1 0
  have hz : (mkTerm L 100 3 g t a).1.sz ≤ 3560 := by omega
  exact ⟨⟨h1, hz, h3, shape_of h1, idxB_of h1 (by omega), err_zero (shape_of h1) (by omega)⟩, by omega⟩
theorem made2 (L : List Int) {g : List Typ} (hg : ∀ u ∈ g, sm u) (hl : g.length ≤ 16) {t : Typ} (ht : sm t) (a : Nat) : Made g (mkTerm L 100 2 g t a).1 t 76 := by
  have hf : fuelOk 100 2 t := .inr ⟨by omega, by omega⟩
  have h1 := mkTerm_typed L 100 2 g t a ht hg (by omega) hf
  have h2 := mkTerm_wt L (w := 1) (by omega) 100 2 g t a ht hg hf
  have h3 := mkTerm_64k L 100 2 g t a (sm_ok ht) (fun u hu => sm_ok (hg u hu)) hf (by omega)
  have h4 : ww 1 (Int.toNat 2) t ≤ 76 := by unfold ww; split <;> decide
  have h5 : (mkTerm L 100 2 g t a).1.sz + (mkTerm L 100 2 g t a).1.cnt 0 0 * 0 ≤ (mkTerm L 100 2 g t a).1.wt 1 0 := wt_cnt 0 (mkTerm L 100 2 g t a).1 0
  have hz : (mkTerm L 100 2 g t a).1.sz ≤ 76 := by omega
  exact ⟨h1, hz, h3, shape_of h1, idxB_of h1 (by omega), err_zero (shape_of h1) (by omega)⟩
theorem type1Eq {L : List Int} (hL : L.length ≤ 500) (a : Nat) : make_Type_eb1 1 (Dk L a) = some ((mkType L 1 a).1, ((mkType L 1 a).2 : Int)) := typeEq hL 1 (by omega) a
theorem term3Eq {L : List Int} (hL : L.length ≤ 500) {g : List Typ} (hg : ∀ u ∈ g, sm u) (hl : g.length ≤ 16) {t : Typ} (ht : sm t) (a : Nat) : make_Term_02b g t 3 (Dk L a) = en2 (mkTerm L 100 3 g t a) :=
  termEq hL 3 (by omega) g t a (sm_ok ht) (fun w hw => sm_ok (hg w hw)) (by omega) (.inr ⟨by omega, by omega⟩)
theorem term2Eq {L : List Int} (hL : L.length ≤ 500) {g : List Typ} (hg : ∀ u ∈ g, sm u) (hl : g.length ≤ 16) {t : Typ} (ht : sm t) (a : Nat) : make_Term_02b g t 2 (Dk L a) = en2 (mkTerm L 100 2 g t a) :=
  termEq hL 2 (by omega) g t a (sm_ok ht) (fun w hw => sm_ok (hg w hw)) (by omega) (.inr ⟨by omega, by omega⟩)
end Go.AM
set_option linter.unusedVariables false
set_option linter.unusedSimpArgs false
set_option maxHeartbeats 4000000
namespace Go.AM
open Go
/-! ### Loops that look at each part -/
theorem loopL_all {α R : Type} {fin : Unit → Option R} {bad : Option R} {self : α → Option Bool} {ok : α → Bool} : ∀ {l : List α} {i : Nat}, (∀ a ∈ l, self a = some (ok a)) →
    loopL fin (fun k _ a _ => bnd (self a) fun r => cond (!r) bad (k ())) i l () = if l.all ok then fin () else bad
  | [], i, _ => rfl
  | a :: l, i, h => by
    rw [loopL_cons, bnd_eq (h a List.mem_cons_self)]
    cases ho : ok a with
    | false => simp [ho]
    | true =>
      simp only [Bool.not_true, cond_false]
      rw [loopL_all fun b hb => h b (List.mem_cons_of_mem _ hb)]
      simp [ho]
theorem loopL_add {α R : Type} {fin : Int → Option R} {self : α → Option Int} {sz : α → Nat} : ∀ {l : List α} {i : Nat} {x : Nat}, (∀ a ∈ l, self a = some ((sz a : Nat) : Int)) → x + (l.map sz).sum ≤ 1000000 →
    loopL fin (fun k _ a x => bnd (self a) fun r => k (w64 (x + r))) i l (x : Int) = fin ((x + (l.map sz).sum : Nat) : Int)
  | [], i, x, _, _ => rfl
  | a :: l, i, x, h, hx => by
    simp only [List.map_cons, List.sum_cons] at hx
    rw [loopL_cons, bnd_eq (h a List.mem_cons_self), w64_id (by omega) (by omega), ← Int.natCast_add, loopL_add (fun b hb => h b (List.mem_cons_of_mem _ hb)) (by omega)]
    simp only [List.map_cons, List.sum_cons, Nat.add_assoc]
/-! ### Types -/
theorem refShapeTy_m (t : Typ) : ∀ m, t.sz ≤ m → ref01_shape_m m t = some t.shape := by
  induction t using Typ.ind with
  | _ k l ih =>
    intro m hm
    rw [Typ.sz_mk] at hm
    cases m with
    | zero => omega
    | succ m =>
      have hk3 : ∀ n : Nat, ref01_shape_k3 (fun t => ref01_shape_m m t) (.mk k l) n = some (n == l.length && shapeTys l) := fun n => by
        unfold ref01_shape_k3
        show cond (((l.length : Nat) : Int) != (n : Int)) _ _ = _
        rw [nat_bne]
        by_cases hn : l.length = n
        · subst hn
          rw [bne_self_eq_false, cond_false, beq_self_eq_true, Bool.true_and]
          have := loopL_all (R := Bool) (fin := fun _ => some true) (bad := some false) (self := fun t => ref01_shape_m m t) (ok := Typ.shape) (l := l) (i := 0) (fun a ha => ih a ha m (by have := szTys_mem ha; omega))
          refine this.trans ?_
          rw [← shapeTys_all]
          cases shapeTys l <;> rfl
        · have e1 : (l.length != n) = true := by simpa using hn
          have e2 : (n == l.length) = false := by simpa using fun h => hn h.symm
          rw [e1, e2]; rfl
      show ref01_shape_b (fun t => ref01_shape_m m t) (.mk k l) = _
      simp only [Typ.shape, wantTy]
      unfold ref01_shape_b ref01_shape_k1 ref01_shape_k2
      show cond (k == 1) _ (cond (k == 2) _ _) = _
      have h0 := hk3 0
      have h2 := hk3 2
      cases e1 : k == 1 with
      | true => simpa using h0
      | false =>
        cases e2 : k == 2 with
        | true => simpa using h0
        | false =>
          cases e5 : k == 5 with
          | true => simp only [cond_false, Typ.kind, e5, cond_true]; simpa using h0
          | false =>
            cases e3 : k == 3 with
            | true => simp only [cond_false, Typ.kind, e5, e3, cond_true]; simpa using h2
            | false =>
              cases e4 : k == 4 with
              | true => simp only [cond_false, Typ.kind, e5, e3, e4, cond_true]; simpa using h2
              | false => simp [Typ.kind, e5, e3, e4]
theorem refSizeTy_m (t : Typ) : ∀ m, t.sz ≤ m → t.sz ≤ 1000000 → ref01_size_m m t = some ((t.sz : Nat) : Int) := by
  induction t using Typ.ind with
  | _ k l ih =>
    intro m hm hs
    rw [Typ.sz_mk] at hm hs
    cases m with
    | zero => omega
    | succ m =>
      show ref01_size_b (fun t => ref01_size_m m t) (.mk k l) = _
      rw [Typ.sz_mk, szTys_sum]
      exact loopL_add (fin := fun x => some x) (self := fun t => ref01_size_m m t) (sz := Typ.sz) (l := l) (x := 1) (fun a ha => ih a ha m (by have := szTys_mem ha; omega) (by have := szTys_mem ha; omega)) (by rw [← szTys_sum]; omega)
theorem refCheckTy (t : Typ) (h : t.sz ≤ 1000000) : ref01_Check t = some t.err := by
  unfold ref01_Check
  rw [bnd_eq (show ref01_shape t = _ from refShapeTy_m t FU (by unfold FU; omega))]
  unfold Typ.err
  cases t.shape with
  | false => rfl
  | true =>
    simp only [if_true, Bool.not_true, cond_false]
    rw [bnd_eq (show ref01_size t = _ from refSizeTy_m t FU (by unfold FU; omega) h)]
    by_cases hc : 64 < t.sz
    · have : decide (((t.sz : Nat) : Int) > 64) = true := decide_eq_true (by omega)
      rw [this, if_pos hc]; rfl
    · have : decide (((t.sz : Nat) : Int) > 64) = false := decide_eq_false (by omega)
      rw [this, if_neg hc]; rfl
theorem refZeroTy (t : Typ) : ref01_Zero t = some t.none := by
  unfold ref01_Zero Typ.none
  rw [nat_beq0]
  cases t.kind == 0 <;> rfl
/-! ### Terms -/
theorem refArgs (k : Int) : ref02_args k = some (match arity k with | some n => ((n : Nat) : Int) | none => -1) := by
  by_cases h1 : k < 1
  · rw [arity_none (.inl h1)]
    have : ∀ n : Int, 1 ≤ n → (k == n) = false := fun n _ => by rw [Bool.eq_false_iff]; intro e; rw [beq_iff_eq] at e; omega
    simp [ref02_args, ref02_args_k1, ref02_args_k2, ref02_args_k3, ref02_args_k4, this]
  · by_cases h2 : 14 ≤ k
    · rw [arity_none (.inr h2)]
      have : ∀ n : Int, n < 14 → (k == n) = false := fun n _ => by rw [Bool.eq_false_iff]; intro e; rw [beq_iff_eq] at e; omega
      simp [ref02_args, ref02_args_k1, ref02_args_k2, ref02_args_k3, ref02_args_k4, this]
    · have : k = 1 ∨ k = 2 ∨ k = 3 ∨ k = 4 ∨ k = 5 ∨ k = 6 ∨ k = 7 ∨ k = 8 ∨ k = 9 ∨ k = 10 ∨ k = 11 ∨ k = 12 ∨ k = 13 := by omega
      rcases this with rfl | rfl | rfl | rfl | rfl | rfl | rfl | rfl | rfl | rfl | rfl | rfl | rfl <;> rfl
theorem refShapeTm_m (t : Trm) : ∀ m, t.sz ≤ m → t.big ≤ 1000000 → ref02_Shape_m m t = some t.shape := by
  induction t using Trm.ind with
  | _ k i ty l ih =>
    intro m hm hs
    rw [Trm.sz_mk] at hm
    rw [Trm.big_mk] at hs
    cases m with
    | zero => omega
    | succ m =>
      have hk3 : ref02_Shape_k3 (fun t => ref02_Shape_m m t) (.mk k i ty l) () = some (shapeTms l) := by
        unfold ref02_Shape_k3
        have := loopL_all (R := Bool) (fin := fun _ => some true) (bad := some false) (self := fun t => ref02_Shape_m m t) (ok := Trm.shape) (l := l) (i := 0) (fun a ha => ih a ha m (by have := szTms_mem ha; omega) (by have := bigTms_mem ha; omega))
        refine this.trans ?_
        rw [← shapeTms_all]
        cases shapeTms l <;> rfl
      have hk2 : ∀ b : Bool, ref02_Shape_k2 (fun t => ref02_Shape_m m t) (.mk k i ty l) b = some ((if b then ty.okB else ty.none) && shapeTms l) := fun b => by
        unfold ref02_Shape_k2
        cases b with
        | true =>
          rw [cond_true]
          show bnd (ref01_Check ty) _ = _
          rw [bnd_eq (refCheckTy ty (by omega))]
          simp only [if_true]
          have := Typ.err_ok ty
          cases he : ty.okB with
          | true =>
            rw [he, beq_iff_eq] at this
            rw [this]
            simpa using hk3
          | false =>
            rw [he] at this
            have hne : (ty.err != 0) = true := by rw [bne, this]; rfl
            rw [hne]; rfl
        | false =>
          rw [cond_false]
          show bnd (ref01_Zero ty) _ = _
          rw [bnd_eq (refZeroTy ty)]
          cases ty.none with
          | true => simpa using hk3
          | false => rfl
      have hk1 : ref02_Shape_k1 (fun t => ref02_Shape_m m t) (.mk k i ty l) () = some ((if typed k then ty.okB else ty.none) && shapeTms l) := by
        unfold ref02_Shape_k1 typed
        show cond (k == 2) _ (cond (k == 6) _ _) = _
        cases k == 2 <;> cases k == 6 <;> simp only [cond_true, cond_false, hk2, Bool.or_false, Bool.or_true, Bool.true_or, Bool.false_or]
        rfl
      show ref02_Shape_b (fun t => ref02_Shape_m m t) (.mk k i ty l) = _
      unfold ref02_Shape_b
      show bnd (ref02_args k) _ = _
      rw [bnd_eq (refArgs k)]
      have hiff := Trm.shape_iff (k := k) (i := i) (t := ty) (l := l)
      have key : (Trm.mk k i ty l).shape = (decide (arity k = some l.length) && (decide (0 ≤ i) && ((decide (i = 0) || decide (k = 1)) && ((if typed k then ty.okB else ty.none) && shapeTms l)))) := by
        rw [Bool.eq_iff_iff, hiff]
        simp only [Bool.and_eq_true, Bool.or_eq_true, decide_eq_true_eq, shapeTms_iff]
      rw [key]
      have tail : arity k = some l.length → cond (decide (i < 0)) (some false) (cond (k != 1) (cond (i != 0) (some false) (ref02_Shape_k1 (fun t => ref02_Shape_m m t) (.mk k i ty l) ())) (ref02_Shape_k1 (fun t => ref02_Shape_m m t) (.mk k i ty l) ())) = some (decide (0 ≤ i) && ((decide (i = 0) || decide (k = 1)) && ((if typed k then ty.okB else ty.none) && shapeTms l))) := fun _ => by
        rw [hk1]
        by_cases hi : i < 0
        · have : ¬ (0 ≤ i) := by omega
          simp [hi, this]
        · have h0 : 0 ≤ i := by omega
          have e0 : decide (i < 0) = false := by simpa using hi
          rw [e0, cond_false]
          by_cases h1 : k = 1
          · subst h1; simp [h0]
          · have e1 : (k != 1) = true := by simpa using h1
            rw [e1, cond_true]
            by_cases hz : i = 0
            · subst hz; simp
            · have ez : (i != 0) = true := by simpa using hz
              rw [ez, cond_true]; simp [hz, h1]
      cases ha : arity k with
      | none =>
        have : (((l.length : Nat) : Int) != -1) = true := by simp
        show cond (((l.length : Nat) : Int) != -1) _ _ = _
        rw [this]; simp
      | some n =>
        show cond (((l.length : Nat) : Int) != (n : Int)) _ _ = _
        rw [nat_bne]
        by_cases hn : l.length = n
        · subst hn
          rw [bne_self_eq_false, cond_false]
          refine (tail ha).trans ?_
          simp
        · have e1 : (l.length != n) = true := by simpa using hn
          rw [e1, cond_true]
          have : ¬ (some n = some l.length) := fun h => hn (by injection h with h; exact h.symm)
          simp [this]
theorem refCountTm_m (t : Trm) : ∀ m, t.sz ≤ m → t.sz ≤ 1000000 → ref02_Count_m m t = some ((t.sz : Nat) : Int) := by
  induction t using Trm.ind with
  | _ k i ty l ih =>
    intro m hm hs
    rw [Trm.sz_mk] at hm hs
    cases m with
    | zero => omega
    | succ m =>
      show ref02_Count_b (fun t => ref02_Count_m m t) (.mk k i ty l) = _
      rw [Trm.sz_mk, szTms_sum]
      exact loopL_add (fin := fun x => some x) (self := fun t => ref02_Count_m m t) (sz := Trm.sz) (l := l) (x := 1) (fun a ha => ih a ha m (by have := szTms_mem ha; omega) (by have := szTms_mem ha; omega)) (by rw [← szTms_sum]; omega)
theorem refCountTm (t : Trm) (h : t.sz ≤ 1000000) : ref02_Count t = some ((t.sz : Nat) : Int) := refCountTm_m t FU (by unfold FU; omega) h
theorem refShapeTm (t : Trm) (h : t.big ≤ 1000000) : ref02_Shape t = some t.shape := refShapeTm_m t FU (by have := t.sz_le_big; unfold FU; omega) h
theorem refCheckTm (t : Trm) (h : t.big ≤ 1000000) : ref02_Check t = some t.err := by
  have := t.sz_le_big
  unfold ref02_Check
  rw [bnd_eq (refShapeTm t h)]
  unfold Trm.err
  cases t.shape with
  | false => rfl
  | true =>
    simp only [if_true, Bool.not_true, cond_false]
    rw [bnd_eq (refCountTm t (by omega))]
    by_cases hc : 4096 < t.sz
    · have : decide (((t.sz : Nat) : Int) > 4096) = true := decide_eq_true (by omega)
      rw [this, if_pos hc]; rfl
    · have : decide (((t.sz : Nat) : Int) > 4096) = false := decide_eq_false (by omega)
      rw [this, if_neg hc]; rfl
end Go.AM
set_option linter.unusedVariables false
set_option linter.unusedSimpArgs false
set_option maxHeartbeats 4000000
namespace Go.AM
open Go
abbrev I63 : Int := 9223372036854775807
theorem bigTms_sum : ∀ l : List Trm, bigTms l = (l.map Trm.big).sum
  | [] => rfl
  | a :: l => by simp [bigTms, bigTms_sum l]
/-! ### Counting that stops -/
def countB {α : Type} (self : α → Int → Option Int) (args : List α) (most : Int) : Nat → Int × Int → Option Int := loopN (fun (k3 : Int × Int → Option Int) x4 => cond (decide (x4.2 < ((args.length : Nat) : Int))) (cond (decide (x4.1 ≤ most)) (idx args x4.2 fun a27 => bnd (self a27 (w64 (most - x4.1))) fun r30 => k3 ((w64 (x4.1 + r30)), (w64 (x4.2 + 1)))) (some x4.1)) (some x4.1))
theorem countTy_b (self : Typ → Int → Option Int) (t : Typ) (most : Int) : make_CountType_b self t most = countB self t.args most FU (1, 0) := by unfold make_CountType_b countB; rfl
theorem countTy_s (m : Nat) (t : Typ) (q : Int) : make_CountType_m (m + 1) t q = make_CountType_b (fun t q => make_CountType_m m t q) t q := by
  unfold make_CountType_m
  rw [fixO_succ]
theorem countTm_s (m : Nat) (t : Trm) (q : Int) : make_CountTerm_m (m + 1) t q = make_CountTerm_b (fun t q => make_CountTerm_m m t q) t q := by
  unfold make_CountTerm_m
  rw [fixO_succ]
theorem countTm_b (self : Trm → Int → Option Int) (t : Trm) (most : Int) : make_CountTerm_b self t most = bnd (make_CountType t.ty (w64 (most - 1))) fun r1 => countB self t.args most FU (w64 (1 + r1), 0) := by unfold make_CountTerm_b countB; rfl
theorem count_loop {α : Type} {self : α → Int → Option Int} {sz : α → Nat} {most : Nat} {args : List α}
    (h : ∀ a ∈ args, ∀ q : Nat, q < most → ∃ c : Nat, self a (q : Int) = some (c : Int) ∧ 1 ≤ c ∧ c ≤ q + 2 ∧ (c ≤ q → c = sz a)) (hm : most ≤ 1000000) : ∀ (d n : Nat) (j x : Nat), most + 3 - x ≤ d → d < n → j + 1 ≤ x → x ≤ most + 2 →
    ∃ c : Nat, countB self args (most : Int) n ((x : Int), (j : Int)) = some (c : Int) ∧ 1 ≤ c ∧ c ≤ most + 2 ∧ (c ≤ most → c = x + ((args.drop j).map sz).sum)
  | d, 0, j, x, _, hn, _, _ => by omega
  | d, n + 1, j, x, hd, hn, h1, h2 => by
    show ∃ c : Nat, cond (decide ((j : Int) < ((args.length : Nat) : Int))) _ _ = _ ∧ _
    by_cases hj : j < args.length
    · rw [decide_eq_true (by omega), cond_true]
      show ∃ c : Nat, cond (decide ((x : Int) ≤ (most : Int))) _ _ = _ ∧ _
      by_cases hx : x ≤ most
      · rw [decide_eq_true (by omega), cond_true]
        have hg : args[j]? = some args[j] := List.getElem?_eq_getElem hj
        show ∃ c : Nat, idx args (j : Int) _ = _ ∧ _
        rw [idx_nat hg]
        have e1 : w64 ((most : Int) - (x : Int)) = ((most - x : Nat) : Int) := by rw [w64_id (by omega) (by omega)]; omega
        obtain ⟨c, hc, c1, c2, c3⟩ := h args[j] (List.getElem_mem _) (most - x) (by omega)
        show ∃ c : Nat, bnd (self args[j] (w64 ((most : Int) - (x : Int)))) _ = _ ∧ _
        rw [e1, bnd_eq hc]
        have hw1 : w64 ((x : Int) + (c : Int)) = ((x + c : Nat) : Int) := by rw [w64_id (by omega) (by omega)]; omega
        have hw2 : w64 ((j : Int) + 1) = ((j + 1 : Nat) : Int) := by rw [w64_id (by omega) (by omega)]; omega
        show ∃ c_1 : Nat, countB self args (most : Int) n (w64 ((x : Int) + (c : Int)), w64 ((j : Int) + 1)) = _ ∧ _
        rw [hw1, hw2]
        cases d with
        | zero => omega
        | succ d =>
          obtain ⟨r, r1, r2, r3, r4⟩ := count_loop h hm d n (j + 1) (x + c) (by omega) (by omega) (by omega) (by omega)
          refine ⟨r, r1, r2, r3, fun hr => ?_⟩
          have r4 := r4 hr
          have hc' : c = sz args[j] := c3 (by
            by_cases hz : c ≤ most - x
            · exact hz
            · have : 1 ≤ r := r2
              exfalso
              have : x + c ≤ r := by rw [r4]; exact Nat.le_add_right _ _
              omega)
          rw [r4, List.drop_eq_getElem_cons hj, List.map_cons, List.sum_cons, hc']; omega
      · rw [decide_eq_false (by omega), cond_false]
        exact ⟨x, rfl, by omega, h2, fun e => absurd e hx⟩
    · rw [decide_eq_false (by omega), cond_false]
      exact ⟨x, rfl, by omega, h2, fun e => by rw [List.drop_eq_nil_of_le (by omega)]; simp⟩
theorem countTy_m : ∀ (most m : Nat) (t : Typ), most ≤ 1000000 → most < m → ∃ c : Nat, make_CountType_m m t (most : Int) = some (c : Int) ∧ 1 ≤ c ∧ c ≤ most + 2 ∧ (c ≤ most → c = t.sz) := by
  intro most
  induction most using Nat.strongRecOn with
  | _ most ih =>
    intro m t hm hlt
    cases m with
    | zero => omega
    | succ m =>
      obtain ⟨k, l⟩ := t
      obtain ⟨c, h1, h2, h3, h4⟩ := count_loop (self := fun t q => make_CountType_m m t q) (sz := Typ.sz) (most := most) (args := l) (fun a _ q hq => ih q hq m a (by omega) (by omega)) hm (most + 3) FU 0 1 (by omega) (by unfold FU; omega) (by omega) (by omega)
      refine ⟨c, ?_, h2, h3, fun hc => ?_⟩
      · rw [countTy_s, countTy_b]; exact h1
      · rw [h4 hc, Typ.sz_mk, szTys_sum]; simp
theorem countTy_neg (m : Nat) (t : Typ) : make_CountType_m (m + 1) t (-1) = some 1 := by
  rw [countTy_s, countTy_b, show FU = 999999999 + 1 from rfl]
  show cond (decide ((0 : Int) < ((t.args.length : Nat) : Int))) _ (some 1) = _
  cases decide ((0 : Int) < ((t.args.length : Nat) : Int)) <;> rfl
theorem countTm_m : ∀ (most m : Nat) (t : Trm), most ≤ 1000000 → most < m → ∃ c : Nat, make_CountTerm_m m t (most : Int) = some (c : Int) ∧ 1 ≤ c ∧ c ≤ most + 2 ∧ (c ≤ most → c = t.big) := by
  intro most
  induction most using Nat.strongRecOn with
  | _ most ih =>
    intro m t hm hlt
    cases m with
    | zero => omega
    | succ m =>
      obtain ⟨k, i, ty, l⟩ := t
      have hty : ∃ c : Nat, make_CountType ty (w64 ((most : Int) - 1)) = some (c : Int) ∧ 1 ≤ c ∧ c ≤ most + 1 ∧ (c + 1 ≤ most → c = ty.sz) := by
        cases most with
        | zero => exact ⟨1, (congrArg (make_CountType ty) (by decide : w64 (((0 : Nat) : Int) - 1) = -1)).trans (countTy_neg 999999999 ty), by omega, by omega, fun h => by omega⟩
        | succ p =>
          obtain ⟨c, h1, h2, h3, h4⟩ := countTy_m p FU ty (by omega) (by unfold FU; omega)
          have e : w64 (((p + 1 : Nat) : Int) - 1) = (p : Int) := by rw [w64_id (by omega) (by omega)]; omega
          exact ⟨c, (congrArg (make_CountType ty) e).trans h1, h2, by omega, fun h => h4 (by omega)⟩
      obtain ⟨u, u1, u2, u3, u4⟩ := hty
      obtain ⟨c, h1, h2, h3, h4⟩ := count_loop (self := fun t q => make_CountTerm_m m t q) (sz := Trm.big) (most := most) (args := l) (fun a _ q hq => ih q hq m a (by omega) (by omega)) hm (most + 3) FU 0 (1 + u) (by omega) (by unfold FU; omega) (by omega) (by omega)
      refine ⟨c, ?_, h2, h3, fun hc => ?_⟩
      · rw [countTm_s, countTm_b]
        show bnd (make_CountType ty (w64 ((most : Int) - 1))) _ = _
        rw [bnd_eq u1]
        have e : w64 (1 + (u : Int)) = ((1 + u : Nat) : Int) := by rw [w64_id (by omega) (by omega)]; omega
        rw [e]
        exact h1
      · have h4 := h4 hc
        have : u = ty.sz := u4 (by omega)
        rw [h4, Trm.big_mk, bigTms_sum, this]; simp
theorem nodes3 (t : Trm) : ∃ c : Nat, law03_nodes t = some (c : Int) ∧ c ≤ 20002 ∧ (c ≤ 20000 → t.big = c) := by
  obtain ⟨c, h1, h2, h3, h4⟩ := countTm_m 20000 FU t (by omega) (by unfold FU; omega)
  exact ⟨c, by unfold law03_nodes; rw [bnd_id]; exact h1, h3, fun h => (h4 h).symm⟩
theorem few3 (a b : Trm) : ∃ r, law03_few [a, b] = some r ∧ (r = true → a.big < 1500 ∧ b.big < 1500) := by
  obtain ⟨c, h1, h2, h3⟩ := nodes3 a
  obtain ⟨d, g1, g2, g3⟩ := nodes3 b
  refine ⟨decide (((c + d : Nat) : Int) < 1500), ?_, fun h => ?_⟩
  · unfold law03_few
    rw [loopL_cons, bnd_eq h1, loopL_cons, bnd_eq g1, loopL_nil]
    have e1 : w64 (0 + (c : Int)) = (c : Int) := by rw [w64_id (by omega) (by omega)]; omega
    have e2 : w64 ((c : Int) + (d : Int)) = ((c + d : Nat) : Int) := by rw [w64_id (by omega) (by omega)]; omega
    rw [e1, e2]
  · have := of_decide_eq_true h
    have := h3 (by omega)
    have := g3 (by omega)
    omega
/-! ### Terms with any index -/
/-- What is known of a right term's parts, at any bound. -/
structure TmN (N : Int) (k i : Int) (ty : Typ) (l : List Trm) : Prop where
  nn : 0 ≤ i
  vr : k = 1 → l = [] ∧ ty = .zero
  sh : ∀ a ∈ l, a.shape = true
  ix : ∀ a ∈ l, a.idxB N = true
  ub : k = 1 → i ≤ N
  oz : k ≠ 1 → i = 0
theorem tmN {N k i : Int} {ty : Typ} {l : List Trm} (hs : (Trm.mk k i ty l).shape = true) (hi : (Trm.mk k i ty l).idxB N = true) : TmN N k i ty l := by
  rw [Trm.shape_iff] at hs
  obtain ⟨h1, h2, h3, h4, h5⟩ := hs
  simp only [Trm.idxB, Bool.and_eq_true, idxBs_all, List.all_eq_true] at hi
  refine ⟨h2, fun e => ?_, h5, hi.2, fun e => ?_, fun e => h3.resolve_right e⟩
  · subst e
    have ha : arity 1 = some 0 := rfl
    rw [ha] at h1
    injection h1 with h1
    exact ⟨List.eq_nil_of_length_eq_zero h1.symm, none_is (by simpa [typed] using h4)⟩
  · subst e; simpa using hi.1
theorem big_shape (t : Trm) : t.shape = true → t.big ≤ 66 * t.sz := by
  induction t using Trm.ind with
  | _ k i ty l ih =>
    intro hs
    rw [Trm.shape_iff] at hs
    obtain ⟨h1, h2, h3, h4, h5⟩ := hs
    have hl : ∀ l : List Trm, (∀ a ∈ l, a.big ≤ 66 * a.sz) → bigTms l ≤ 66 * szTms l := by
      intro l
      induction l with
      | nil => intro _; simp [bigTms]
      | cons a l ih2 =>
        intro h
        have := h a List.mem_cons_self
        have := ih2 fun b hb => h b (List.mem_cons_of_mem _ hb)
        simp only [bigTms, szTms]; omega
    have := hl l fun a ha => ih a ha (h5 a ha)
    rw [Trm.big_mk, Trm.sz_mk]
    have : ty.sz ≤ 64 := by
      split at h4
      · exact (okB_iff.1 h4).2
      · rw [none_is h4]; decide
    omega
theorem dec_or (a b : Nat) : (decide (0 < a) || decide (0 < b)) = decide (0 < a + b) := by
  rw [Bool.eq_iff_iff]; simp only [Bool.or_eq_true, decide_eq_true_eq]; omega
theorem fr_cnt (v : Nat) (t : Trm) : ∀ b : Nat, t.fr v b = decide (0 < t.cnt v b) := by
  induction t using Trm.ind with
  | _ k i ty l ih =>
    intro b
    have hl : ∀ (l : List Trm), (∀ a ∈ l, ∀ b : Nat, a.fr v b = decide (0 < a.cnt v b)) → ∀ b : Nat, frs v l b = decide (0 < cnts v l b) := by
      intro l
      induction l with
      | nil => intro _ b; rfl
      | cons a l ih2 =>
        intro h b
        show (a.fr v b || frs v l b) = decide (0 < a.cnt v b + cnts v l b)
        rw [h a List.mem_cons_self b, ih2 (fun c hc => h c (List.mem_cons_of_mem _ hc)) b, dec_or]
    show ((k == 1 && i == (v : Int) + (b : Int)) || frs v l (if k == 2 then b + 1 else b)) = decide (0 < (if k == 1 && i == ((b + v : Nat) : Int) then 1 else 0) + cnts v l (if k == 2 then b + 1 else b))
    rw [hl l ih, ← dec_or, show (v : Int) + (b : Int) = ((b + v : Nat) : Int) by omega]
    cases k == 1 && i == ((b + v : Nat) : Int) <;> rfl
theorem cnt_le (v : Nat) (t : Trm) : ∀ b : Nat, t.cnt v b ≤ t.sz := by
  induction t using Trm.ind with
  | _ k i ty l ih =>
    intro b
    have hl : ∀ (l : List Trm), (∀ a ∈ l, ∀ b : Nat, a.cnt v b ≤ a.sz) → ∀ b : Nat, cnts v l b ≤ szTms l := by
      intro l
      induction l with
      | nil => intro _ b; exact Nat.le_refl _
      | cons a l ih2 =>
        intro h b
        have := h a List.mem_cons_self b
        have := ih2 (fun c hc => h c (List.mem_cons_of_mem _ hc)) b
        simp only [cnts, szTms]; omega
    have := hl l ih (if k == 2 then b + 1 else b)
    simp only [Trm.cnt]
    rw [Trm.sz_mk]
    split <;> omega
theorem count_eachN (v : Nat) (hv : v ≤ 1000000) (t : Trm) : t.shape = true → t.idxB I63 = true → ∀ (b s : Nat), b + t.sz ≤ 1000000 → s + t.sz ≤ 1000000 →
    t.each (fun s i b => if w64 (i - b) == (v : Int) then w64 (s + 1) else s) (b : Int) (s : Int) = ((s + t.cnt v b : Nat) : Int) := by
  induction t using Trm.ind with
  | _ k i ty l ih =>
    intro hs hi b s hb1 hs1
    have H := tmN hs hi
    rw [Trm.sz_mk] at hb1 hs1
    rw [each_mk, next_b (by omega)]
    have hl : ∀ (l : List Trm), (∀ a ∈ l, ∀ (b s : Nat), b + a.sz ≤ 1000000 → s + a.sz ≤ 1000000 → a.each (fun s i b => if w64 (i - b) == (v : Int) then w64 (s + 1) else s) (b : Int) (s : Int) = ((s + a.cnt v b : Nat) : Int)) →
        ∀ (b s : Nat), b + szTms l ≤ 1000000 → s + szTms l ≤ 1000000 → l.foldl (fun s a => a.each (fun s i b => if w64 (i - b) == (v : Int) then w64 (s + 1) else s) (b : Int) s) (s : Int) = ((s + cnts v l b : Nat) : Int) := by
      intro l
      induction l with
      | nil => intro _ b s _ _; rfl
      | cons a l ih2 =>
        intro h b s hb hs
        simp only [szTms] at hb hs
        have hc := cnt_le v a b
        simp only [List.foldl_cons, cnts]
        rw [h a List.mem_cons_self b s (by omega) (by omega), ih2 (fun x hx => h x (List.mem_cons_of_mem _ hx)) b _ (by omega) (by omega), Nat.add_assoc]
    have hh := hl l (fun a ha b s h1 h2 => ih a ha (H.sh a ha) (H.ix a ha) b s h1 h2)
    have hbz : (if k == 2 then b + 1 else b) + szTms l ≤ 1000000 := by have := b_le k b; omega
    simp only [Trm.cnt]
    by_cases hk : k = 1
    · subst hk
      obtain ⟨rfl, rfl⟩ := H.vr rfl
      have h1 := H.nn
      have h2 : i ≤ 9223372036854775807 := H.ub rfl
      simp only [beq_self_eq_true, if_true, Bool.true_and, List.foldl_nil, cnts, Nat.add_zero]
      rw [w64_id (by omega) (by omega)]
      by_cases hc : i = ((b + v : Nat) : Int)
      · rw [if_pos (by simp; omega), if_pos (by simp [hc]), w64_id (by omega) (by omega)]; omega
      · rw [if_neg (by simp; omega), if_neg (by simp; omega)]; omega
    · have e1 : (k == 1) = false := by simpa using hk
      simp only [e1, Bool.false_and, Bool.false_eq_true, if_false, Nat.zero_add]
      exact hh _ s hbz (by omega)
theorem count_eqN (v : Nat) (hv : v ≤ 1000000) {t : Trm} (h1 : t.shape = true) (h2 : t.idxB I63 = true) (h3 : t.sz ≤ 1000000) : t.count v = ((t.cnt v 0 : Nat) : Int) := by
  have := count_eachN v hv t h1 h2 0 0 (by omega) (by omega)
  rw [Nat.zero_add] at this
  exact this
/-- Two ways to rebuild that agree at every variable of a right term. -/
theorem rebuild_congr {f g : Int → Int → Trm} (c : Bool) (v : Nat) (t : Trm) : t.shape = true → t.idxB I63 = true → ∀ b : Nat, b + t.sz ≤ 1000000 → (c = true → t.fr v b = false) →
    (∀ (i : Int) (b : Nat), 0 ≤ i → i ≤ I63 → b ≤ 1000000 → (c = true → i ≠ v + b) → f i b = g i b) → t.rebuild f b = t.rebuild g b := by
  induction t using Trm.ind with
  | _ k i ty l ih =>
    intro hs hi b hb hc hfg
    have H := tmN hs hi
    rw [Trm.sz_mk] at hb
    by_cases hk : k = 1
    · subst hk
      have h1 := H.nn
      have h2 : i ≤ 9223372036854775807 := H.ub rfl
      show f i b = g i b
      refine hfg i b h1 h2 (by omega) fun e => ?_
      have := hc e
      rw [fr_mk] at this
      simp only [beq_self_eq_true, Bool.true_and, Bool.or_eq_false_iff, beq_eq_false_iff_ne] at this
      exact this.1
    · have e1 : (k == 1) = false := by simpa using hk
      rw [rebuild_node _ _ _ _ _ _ e1, rebuild_node _ _ _ _ _ _ e1, next_b (by omega)]
      congr 1
      refine List.map_congr_left fun a ha => ih a ha (H.sh a ha) (H.ix a ha) _ (bz ha (by omega)) (fun e => ?_) hfg
      have := hc e
      rw [fr_mk, e1, Bool.false_and, Bool.false_or, List.any_eq_false] at this
      simpa using this a ha
theorem rebuild_big {f : Int → Int → Trm} (v S : Nat) (t : Trm) : t.shape = true → t.idxB I63 = true → ∀ b : Nat, b + t.sz ≤ 1000000 →
    (∀ (i : Int) (b : Nat), 0 ≤ i → i ≤ I63 → b ≤ 1000000 → (f i b).big ≤ 2 + if i = ((b + v : Nat) : Int) then S else 0) → (t.rebuild f b).big ≤ t.big + t.cnt v b * S := by
  induction t using Trm.ind with
  | _ k i ty l ih =>
    intro hs hi b hb hf
    have H := tmN hs hi
    rw [Trm.sz_mk] at hb
    by_cases hk : k = 1
    · subst hk
      obtain ⟨rfl, rfl⟩ := H.vr rfl
      have := hf i b H.nn (H.ub rfl) (by omega)
      show (f i b).big ≤ _
      refine Nat.le_trans this ?_
      have hz : (Trm.mk 1 i Typ.zero []).big = 2 := rfl
      rw [hz]
      simp only [Trm.cnt, cnts, beq_self_eq_true, Bool.true_and, Nat.add_zero, beq_iff_eq]
      split <;> simp
    · have e1 : (k == 1) = false := by simpa using hk
      rw [rebuild_node _ _ _ _ _ _ e1, next_b (by omega), Trm.big_mk, Trm.big_mk]
      simp only [Trm.cnt, e1, Bool.false_and, Bool.false_eq_true, if_false, Nat.zero_add]
      have hl : ∀ (l : List Trm) (c : Nat), (∀ a ∈ l, (a.rebuild f (c : Int)).big ≤ a.big + a.cnt v c * S) → bigTms (l.map (·.rebuild f (c : Int))) ≤ bigTms l + cnts v l c * S := by
        intro l c
        induction l with
        | nil => intro _; simp [bigTms]
        | cons a l ih2 =>
          intro h
          have h1 := h a List.mem_cons_self
          have h2 := ih2 fun x hx => h x (List.mem_cons_of_mem _ hx)
          simp only [List.map_cons, bigTms, cnts, Nat.add_mul]; omega
      have := hl l (if k == 2 then b + 1 else b) fun a ha => ih a ha (H.sh a ha) (H.ix a ha) _ (bz ha (by omega)) hf
      omega
/-! ### What the references reckon -/
def blw (k : Int) : Int := cond (k == 2) 1 0
theorem below_eq (k i : Int) (ty : Typ) (l : List Trm) : ref03_below (.mk k i ty l) = some (blw k) := by
  show cond (k == 2) _ _ = _
  unfold blw
  cases k == 2 <;> rfl
theorem blw_next {k : Int} {b a : Nat} (h : a + b ≤ 2000000) : w64 (((a + b : Nat) : Int) + blw k) = ((a + (if k == 2 then b + 1 else b) : Nat) : Int) := by
  unfold blw
  cases k == 2 with
  | true => simp only [cond_true, if_true]; rw [w64_id (by omega) (by omega)]; omega
  | false => simp only [cond_false, Bool.false_eq_true, if_false]; rw [w64_id (by omega) (by omega)]; omega
theorem blw_next0 {k : Int} {b : Nat} (h : b ≤ 2000000) : w64 ((b : Int) + blw k) = ((if k == 2 then b + 1 else b : Nat) : Int) := by
  have := blw_next (k := k) (a := 0) (b := b) (by omega)
  simpa using this
theorem least_m (N : Nat) (t : Trm) : ∀ m, t.sz ≤ m → t.shape = true → ref03_Least_m m t N = some (t.idxB N) := by
  induction t using Trm.ind with
  | _ k i ty l ih =>
    intro m hm hs
    rw [Trm.sz_mk] at hm
    have hs' := hs
    rw [Trm.shape_iff] at hs'
    obtain ⟨h1, h2, h3, h4, h5⟩ := hs'
    cases m with
    | zero => omega
    | succ m =>
      show ref03_Least_b (fun t q => ref03_Least_m m t q) (.mk k i ty l) N = _
      unfold ref03_Least_b
      have := loopL_all (R := Bool) (fin := fun _ => some true) (bad := some false) (self := fun t => ref03_Least_m m t N) (ok := fun t => t.idxB N) (l := l) (i := 0) (fun a ha => ih a ha m (by have := szTms_mem ha; omega) (h5 a ha))
      refine (congrArg (cond (decide (i > (N : Int))) (some false)) this).trans ?_
      simp only [Trm.idxB, idxBs_all]
      by_cases hi : i > (N : Int)
      · have hk : k = 1 := h3.resolve_left (by omega)
        have : ¬ (i ≤ (N : Int)) := by omega
        subst hk
        simp [hi, this]
      · have : i ≤ (N : Int) := by omega
        rw [decide_eq_false hi, decide_eq_true this, cond_false]
        cases l.all fun t => t.idxB N <;> simp
/-- A variable raised. -/
def upAt (a y : Int) (i b : Int) : Trm := .var (if decide (i ≥ a + b) then w64 (i + y) else i)
theorem up_m (a : Nat) (ha : a ≤ 1000000) (y : Int) (t : Trm) : ∀ (m b : Nat), t.sz ≤ m → t.shape = true → t.idxB I63 = true → t.big ≤ 1000000 → b + t.sz ≤ 1000000 → ref03_Up_m m t ((a + b : Nat) : Int) y = some (t.rebuild (upAt a y) b) := by
  induction t using Trm.ind with
  | _ k i ty l ih =>
    intro m b hm hs hi hbg hb
    have H := tmN hs hi
    rw [Trm.sz_mk] at hm hb
    rw [Trm.big_mk] at hbg
    have hln := bigTms_len l
    cases m with
    | zero => omega
    | succ m =>
      have hk1 : ∀ x : Int, ref03_Up_k1 (fun t a y => ref03_Up_m m t a y) (.mk k i ty l) ((a + b : Nat) : Int) y x = some (.mk k x ty (l.map (·.rebuild (upAt a y) ((if k == 2 then b + 1 else b : Nat) : Int)))) := fun x => by
        unfold ref03_Up_k1
        simp only [below_eq, bnd_some, blw_next (k := k) (a := a) (b := b) (by omega)]
        refine (loopL_push (self := fun t => ref03_Up_m m t ((a + (if k == 2 then b + 1 else b) : Nat) : Int) y) (f := fun t => t.rebuild (upAt a y) ((if k == 2 then b + 1 else b : Nat) : Int)) (fun c hc => ih c hc m _ (by have := szTms_mem hc; omega) (H.sh c hc) (H.ix c hc) (by have := bigTms_mem hc; omega) (bz hc (by omega))) (by show 0 + l.length ≤ _; omega)).trans ?_
        simp
      show ref03_Up_b (fun t a y => ref03_Up_m m t a y) (.mk k i ty l) ((a + b : Nat) : Int) y = _
      unfold ref03_Up_b
      show cond (k == 1) (cond (decide (i ≥ ((a + b : Nat) : Int))) (ref03_Up_k1 (fun t a y => ref03_Up_m m t a y) (.mk k i ty l) ((a + b : Nat) : Int) y (w64 (i + y))) (ref03_Up_k1 (fun t a y => ref03_Up_m m t a y) (.mk k i ty l) ((a + b : Nat) : Int) y i)) (ref03_Up_k1 (fun t a y => ref03_Up_m m t a y) (.mk k i ty l) ((a + b : Nat) : Int) y i) = _
      by_cases hk : k = 1
      · subst hk
        obtain ⟨rfl, rfl⟩ := H.vr rfl
        show _ = some (upAt a y i b)
        unfold upAt
        rw [hk1, hk1, show (a : Int) + (b : Int) = ((a + b : Nat) : Int) by omega]
        cases decide (i ≥ ((a + b : Nat) : Int)) <;> rfl
      · have e1 : (k == 1) = false := by simpa using hk
        rw [e1, cond_false, hk1, rebuild_node _ _ _ _ _ _ e1, next_b (by omega)]
theorem loopL_any {α R : Type} {fin : Unit → Option R} {good : Option R} {self : α → Option Bool} {ok : α → Bool} : ∀ {l : List α} {i : Nat}, (∀ a ∈ l, self a = some (ok a)) →
    loopL fin (fun k _ a _ => bnd (self a) fun r => cond r good (k ())) i l () = if l.any ok then good else fin ()
  | [], i, _ => rfl
  | a :: l, i, h => by
    rw [loopL_cons, bnd_eq (h a List.mem_cons_self)]
    cases ho : ok a with
    | true => simp [ho]
    | false =>
      simp only [cond_false]
      rw [loopL_any fun b hb => h b (List.mem_cons_of_mem _ hb)]
      simp [ho]
theorem has_m (a : Nat) (ha : a ≤ 1000000) (t : Trm) : ∀ (m b : Nat), t.sz ≤ m → b + t.sz ≤ 1000000 → ref03_Has_m m t ((a + b : Nat) : Int) = some (t.fr a b) := by
  induction t using Trm.ind with
  | _ k i ty l ih =>
    intro m b hm hb
    rw [Trm.sz_mk] at hm hb
    cases m with
    | zero => omega
    | succ m =>
      have hk1 : ref03_Has_k1 (fun t a => ref03_Has_m m t a) (.mk k i ty l) ((a + b : Nat) : Int) () = some (l.any fun t => t.fr a (if k == 2 then b + 1 else b)) := by
        unfold ref03_Has_k1
        simp only [below_eq, bnd_some, blw_next (k := k) (a := a) (b := b) (by omega)]
        have := loopL_any (R := Bool) (fin := fun _ => some false) (good := some true) (self := fun t => ref03_Has_m m t ((a + (if k == 2 then b + 1 else b) : Nat) : Int)) (ok := fun t => t.fr a (if k == 2 then b + 1 else b)) (l := l) (i := 0) (fun c hc => ih c hc m _ (by have := szTms_mem hc; omega) (bz hc (by omega)))
        refine this.trans ?_
        cases l.any fun t => t.fr a (if k == 2 then b + 1 else b) <;> rfl
      show ref03_Has_b (fun t a => ref03_Has_m m t a) (.mk k i ty l) ((a + b : Nat) : Int) = _
      unfold ref03_Has_b
      show cond (k == 1) (cond (i == ((a + b : Nat) : Int)) (some true) (ref03_Has_k1 (fun t a => ref03_Has_m m t a) (.mk k i ty l) ((a + b : Nat) : Int) ())) (ref03_Has_k1 (fun t a => ref03_Has_m m t a) (.mk k i ty l) ((a + b : Nat) : Int) ()) = _
      rw [hk1, fr_mk, show (a : Int) + (b : Int) = ((a + b : Nat) : Int) by omega]
      cases k == 1 <;> cases i == ((a + b : Nat) : Int) <;> simp
theorem times_m (a : Nat) (ha : a ≤ 1000000) (t : Trm) : ∀ (m b : Nat), t.sz ≤ m → t.shape = true → b + t.sz ≤ 1000000 → ref03_Times_m m t ((a + b : Nat) : Int) = some ((t.cnt a b : Nat) : Int) := by
  induction t using Trm.ind with
  | _ k i ty l ih =>
    intro m b hm hs hb
    have hs' := hs
    rw [Trm.shape_iff] at hs'
    obtain ⟨h1, h2, h3, h4, h5⟩ := hs'
    rw [Trm.sz_mk] at hm hb
    cases m with
    | zero => omega
    | succ m =>
      have hcs : ∀ c : Nat, (l.map fun t => t.cnt a c).sum ≤ szTms l := fun c => by
        rw [szTms_sum]
        clear ih hs h1 h5 hm hb
        induction l with
        | nil => simp
        | cons x l ih2 => have := cnt_le a x c; simp only [List.map_cons, List.sum_cons]; omega
      have hk1 : ∀ x : Nat, x ≤ 1 → ref03_Times_k1 (fun t a => ref03_Times_m m t a) (.mk k i ty l) ((a + b : Nat) : Int) x = some ((x + cnts a l (if k == 2 then b + 1 else b) : Nat) : Int) := fun x hx => by
        unfold ref03_Times_k1
        simp only [below_eq, bnd_some, blw_next (k := k) (a := a) (b := b) (by omega)]
        rw [cnts_sum]
        exact loopL_add (fin := fun x => some x) (self := fun t => ref03_Times_m m t ((a + (if k == 2 then b + 1 else b) : Nat) : Int)) (sz := fun t => t.cnt a (if k == 2 then b + 1 else b)) (l := l) (x := x) (fun c hc => ih c hc m _ (by have := szTms_mem hc; omega) (h5 c hc) (bz hc (by omega))) (by have := hcs (if k == 2 then b + 1 else b); omega)
      show ref03_Times_b (fun t a => ref03_Times_m m t a) (.mk k i ty l) ((a + b : Nat) : Int) = _
      unfold ref03_Times_b
      show cond (k == 1) (cond (i == ((a + b : Nat) : Int)) (ref03_Times_k1 (fun t a => ref03_Times_m m t a) (.mk k i ty l) ((a + b : Nat) : Int) (w64 (0 + 1))) (ref03_Times_k1 (fun t a => ref03_Times_m m t a) (.mk k i ty l) ((a + b : Nat) : Int) 0)) (ref03_Times_k1 (fun t a => ref03_Times_m m t a) (.mk k i ty l) ((a + b : Nat) : Int) 0) = _
      have q0 := hk1 0 (by omega)
      have q1 := hk1 1 (by omega)
      simp only [Trm.cnt]
      rw [show w64 (0 + 1) = ((1 : Nat) : Int) by decide, q1]
      rw [show ((0 : Nat) : Int) = 0 from rfl] at q0
      rw [q0, show a + b = b + a by omega]
      cases k == 1 <;> cases i == ((b + a : Nat) : Int) <;> simp
/-- A variable found. -/
def inAt (a : Int) (s : Trm) (i b : Int) : Trm := if i == a + b then s.rebuild (upAt 0 (a + b)) 0 else if decide (i > a + b) then .var (w64 (i - 1)) else .var i
theorem in_m (a : Nat) (ha : a ≤ 1000000) (s : Trm) (hss : s.shape = true) (hsi : s.idxB I63 = true) (hsb : s.big ≤ 1000000) (t : Trm) : ∀ (m b : Nat), t.sz ≤ m → t.shape = true → t.idxB I63 = true → t.big ≤ 1000000 → b + t.sz ≤ 1000000 →
    ref03_In_m m t a b s = some (t.rebuild (inAt a s) b) := by
  induction t using Trm.ind with
  | _ k i ty l ih =>
    intro m b hm hs hi hbg hb
    have H := tmN hs hi
    rw [Trm.sz_mk] at hm hb
    rw [Trm.big_mk] at hbg
    have hln := bigTms_len l
    cases m with
    | zero => omega
    | succ m =>
      show ref03_In_b (fun t a d s => ref03_In_m m t a d s) (.mk k i ty l) a b s = _
      unfold ref03_In_b
      have hw : w64 ((a : Int) + (b : Int)) = ((a + b : Nat) : Int) := by rw [w64_id (by omega) (by omega)]; omega
      have hup : ref03_Up s 0 ((a + b : Nat) : Int) = some (s.rebuild (upAt 0 ((a + b : Nat) : Int)) 0) := by
        have hz := s.sz_le_big
        have := up_m 0 (by omega) ((a + b : Nat) : Int) s FU 0 (by unfold FU; omega) hss hsi hsb (by omega)
        unfold ref03_Up
        simpa using this
      show cond (k == 1) (cond (i == w64 ((a : Int) + (b : Int))) (bnd (ref03_Up s 0 (w64 ((a : Int) + (b : Int)))) fun r3 => some r3) (cond (decide (i > w64 ((a : Int) + (b : Int)))) (bnd (ref02_Var (w64 (i - 1))) fun r6 => some r6) (some (.mk k i ty l)))) (loopL _ _ 0 l []) = _
      rw [hw, hup]
      by_cases hk : k = 1
      · subst hk
        obtain ⟨rfl, rfl⟩ := H.vr rfl
        show _ = some (inAt a s i b)
        unfold inAt
        rw [show (a : Int) + (b : Int) = ((a + b : Nat) : Int) by omega]
        cases i == ((a + b : Nat) : Int) <;> cases decide (i > ((a + b : Nat) : Int)) <;> rfl
      · have e1 : (k == 1) = false := by simpa using hk
        rw [e1, cond_false, rebuild_node _ _ _ _ _ _ e1, next_b (by omega)]
        simp only [below_eq, bnd_some]
        have hb' := blw_next0 (k := k) (b := b) (by omega)
        simp only [hb']
        refine (loopL_push (self := fun t => ref03_In_m m t a ((if k == 2 then b + 1 else b : Nat) : Int) s) (f := fun t => t.rebuild (inAt a s) ((if k == 2 then b + 1 else b : Nat) : Int)) (fun c hc => ih c hc m _ (by have := szTms_mem hc; omega) (H.sh c hc) (H.ix c hc) (by have := bigTms_mem hc; omega) (bz hc (by omega))) (by show 0 + l.length ≤ _; omega)).trans ?_
        simp
theorem mark_m (t : Trm) : ∀ (m b : Nat) (s : List (Int × Bool)), t.sz ≤ m → b + t.sz ≤ 1000000 → ref03_Mark_31b_m m t b s = some (t.each (fun s i b => if decide (i ≥ b) then mset s (w64 (i - b)) true else s) b s) := by
  induction t using Trm.ind with
  | _ k i ty l ih =>
    intro m b s hm hb
    rw [Trm.sz_mk] at hm hb
    cases m with
    | zero => omega
    | succ m =>
      have hk1 : ∀ s : List (Int × Bool), ref03_Mark_31b_k1 (fun t d s => ref03_Mark_31b_m m t d s) (.mk k i ty l) b s = some (l.foldl (fun s a => a.each (fun s i b => if decide (i ≥ b) then mset s (w64 (i - b)) true else s) ((if k == 2 then b + 1 else b : Nat) : Int) s) s) := fun s => by
        unfold ref03_Mark_31b_k1
        simp only [below_eq, bnd_some, blw_next0 (k := k) (b := b) (by omega)]
        exact loopL_fold (self := fun a x => ref03_Mark_31b_m m a ((if k == 2 then b + 1 else b : Nat) : Int) x) (fun a ha x => ih a ha m _ x (by have : a.sz ≤ szTms l := szTms_mem ha; omega) (bz (l := l) ha (by omega)))
      rw [each_mk, next_b (by omega)]
      show ref03_Mark_31b_b (fun t d s => ref03_Mark_31b_m m t d s) (.mk k i ty l) b s = _
      unfold ref03_Mark_31b_b
      show cond (k == 1) (cond (decide (i ≥ (b : Int))) (ref03_Mark_31b_k1 (fun t d s => ref03_Mark_31b_m m t d s) (.mk k i ty l) b (mset s (w64 (i - (b : Int))) true)) (ref03_Mark_31b_k1 (fun t d s => ref03_Mark_31b_m m t d s) (.mk k i ty l) b s)) (ref03_Mark_31b_k1 (fun t d s => ref03_Mark_31b_m m t d s) (.mk k i ty l) b s) = _
      rw [hk1, hk1]
      cases k == 1 <;> cases decide (i ≥ (b : Int)) <;> rfl
end Go.AM
set_option linter.unusedVariables false
set_option linter.unusedSimpArgs false
set_option maxHeartbeats 4000000
namespace Go.AM
open Go
theorem w64_in (x : Int) : inI (w64 x) = true := by
  have : -9223372036854775808 ≤ w64 x ∧ w64 x ≤ 9223372036854775807 := by
    unfold w64
    rw [IntKind.wrap_i64]
    omega
  simp only [inI, Bool.and_eq_true]
  exact ⟨decide_eq_true this.1, decide_eq_true this.2⟩
theorem err_cases (t : Trm) : (t.err ≠ 0 ∧ (t.err != 0) = true) ∨ (t.err = 0 ∧ t.shape = true ∧ t.sz ≤ 4096) := by
  unfold Trm.err
  cases t.shape with
  | false => exact .inl ⟨by simp, by simp⟩
  | true =>
    by_cases h : 4096 < t.sz
    · simp [h]
    · right; simp [h]; omega
theorem within_ref {α : Type} (n : Int) (A K : α) : cond (decide (n < 0)) A (cond (decide (n > 4096)) A K) = cond (!within n) A K := by
  unfold within
  by_cases h1 : n < 0
  · rw [decide_eq_true h1, decide_eq_false (by omega : ¬ (n ≥ 0))]; rfl
  · rw [decide_eq_false h1, decide_eq_true (by omega : n ≥ 0)]
    by_cases h2 : n > 4096
    · rw [decide_eq_true h2, decide_eq_false (by omega : ¬ (n ≤ 4096))]; rfl
    · rw [decide_eq_false h2, decide_eq_true (by omega : n ≤ 4096)]; rfl
theorem within_nat {n : Int} (h : within n = true) : ∃ a : Nat, n = (a : Int) ∧ a ≤ 4096 := by
  unfold within at h
  rw [Bool.and_eq_true, decide_eq_true_eq, decide_eq_true_eq] at h
  exact ⟨n.toNat, by omega, by omega⟩
theorem least_near {t : Trm} (hs : t.shape = true) (hb : t.big ≤ 1000000) : ref03_Least t 536870912 = some t.near := by
  have hz := t.sz_le_big
  have := least_m 536870912 t FU (by unfold FU; omega) hs
  rw [near_eq]
  exact this
theorem lift_up {t : Trm} (a : Nat) (y : Int) (ha : a ≤ 1000000) (hs : t.shape = true) (hi : t.idxB I63 = true) (hz : t.sz ≤ 1000000) : t.rebuild (upAt a y) 0 = t.lift a y := by
  refine rebuild_congr (b := 0) false 0 t hs hi (by omega) (fun e => by cases e) fun i b h1 h2 hb _ => ?_
  have h2 : i ≤ 9223372036854775807 := h2
  unfold upAt liftAt
  rw [w64_id (x := i - (b : Int)) (by omega) (by omega)]
  by_cases h : i ≥ (a : Int) + (b : Int)
  · rw [decide_eq_true h, decide_eq_true (by omega : i - (b : Int) ≥ a)]
  · rw [decide_eq_false h, decide_eq_false (by omega : ¬ (i - (b : Int) ≥ a))]
theorem lift_big {t : Trm} (a : Nat) (y : Int) (hs : t.shape = true) (hi : t.idxB I63 = true) (hz : t.sz ≤ 1000000) : (t.lift a y).big ≤ t.big := by
  have := rebuild_big (f := liftAt a y) 0 0 t hs hi 0 (by omega) fun i b _ _ _ => by
    have : (liftAt a y i b).big = 2 := rfl
    rw [this]; exact Nat.le_add_right _ _
  rw [Nat.mul_zero, Nat.add_zero] at this
  exact this
theorem lift2 {t : Trm} (hb : t.big ≤ 1000000) (hi : t.idxB I63 = true) (f y : Int) : ∃ r e, subst_Lift t f y = some (r, e) ∧ ref03_Lift t f y = some (r, e) ∧ r.big ≤ 1000000 := by
  have hsz := t.sz_le_big
  unfold subst_Lift ref03_Lift
  rw [bnd_eq (checkTm t hb), bnd_eq (refCheckTm t hb)]
  rcases err_cases t with ⟨_, he⟩ | ⟨he, hs, h4⟩
  · rw [he]; exact ⟨_, _, rfl, rfl, by decide⟩
  rw [he, bne_self_eq_false, cond_false, cond_false, within_ref, within_ref, bnd_eq (within_eq f), bnd_eq (within_eq y)]
  cases hf : within f with
  | false => exact ⟨_, _, rfl, rfl, by decide⟩
  | true =>
    cases hy : within y with
    | false => exact ⟨_, _, rfl, rfl, by decide⟩
    | true =>
      rw [Bool.not_true, cond_false, cond_false, cond_false, cond_false, bnd_eq (nearEq t (by omega)), bnd_eq (least_near hs hb)]
      cases hn : t.near with
      | false => exact ⟨_, _, rfl, rfl, by decide⟩
      | true =>
        obtain ⟨a, rfl, ha⟩ := within_nat hf
        have hbl := lift_big a y hs hi (by omega)
        have hu : ref03_Up t a y = some (t.lift a y) := by
          have := up_m a (by omega) y t FU 0 (by unfold FU; omega) hs hi hb (by omega)
          rw [Nat.add_zero, show ((0 : Nat) : Int) = 0 from rfl, lift_up a y (by omega) hs hi (by omega)] at this
          exact this
        rw [Bool.not_true, cond_false, cond_false, bnd_eq (liftEq t _ _ hb), bnd_eq hu, bnd_eq (copyTm _ (by omega))]
        exact ⟨_, _, rfl, rfl, by omega⟩
theorem lower2 {t : Trm} (hb : t.big ≤ 1000000) (hi : t.idxB I63 = true) (f : Int) : ∃ r e, subst_Lower t f = some (r, e) ∧ ref03_Lower t f = some (r, e) ∧ r.big ≤ 1000000 := by
  have hsz := t.sz_le_big
  unfold subst_Lower ref03_Lower
  rw [bnd_eq (checkTm t hb), bnd_eq (refCheckTm t hb)]
  rcases err_cases t with ⟨_, he⟩ | ⟨he, hs, h4⟩
  · rw [he]; exact ⟨_, _, rfl, rfl, by decide⟩
  rw [he, bne_self_eq_false, cond_false, cond_false, within_ref, bnd_eq (within_eq f)]
  cases hf : within f with
  | false => exact ⟨_, _, rfl, rfl, by decide⟩
  | true =>
    obtain ⟨a, rfl, ha⟩ := within_nat hf
    have h1 : ref03_Has t a = some (t.fr a 0) := by
      have := has_m a (by omega) t FU 0 (by unfold FU; omega) (by omega)
      rw [Nat.add_zero] at this
      exact this
    rw [Bool.not_true, cond_false, cond_false, bnd_eq (countEq t _ (by omega)), count_eqN a (by omega) hs hi (by omega), bnd_eq h1, fr_cnt]
    by_cases hc : 0 < t.cnt a 0
    · rw [decide_eq_true hc, decide_eq_true (by omega : ((t.cnt a 0 : Nat) : Int) > 0)]
      exact ⟨_, _, rfl, rfl, by decide⟩
    · rw [decide_eq_false hc, decide_eq_false (by omega : ¬ ((t.cnt a 0 : Nat) : Int) > 0)]
      have hw : w64 ((a : Int) + 1) = ((a + 1 : Nat) : Int) := by rw [w64_id (by omega) (by omega)]; omega
      have hp : tree_Put t a (Trm.mk 0 0 (Typ.mk 0 ([] : List Typ)) ([] : List Trm)) = some (t.put a .zero) := putEq t a .zero hb (by decide)
      have hcg : t.rebuild (upAt ((a + 1 : Nat) : Int) (-1)) 0 = t.put a .zero := by
        refine rebuild_congr (b := 0) true a t hs hi (by omega) (fun _ => by rw [fr_cnt, decide_eq_false hc]) fun i b h1 h2 hb hne => ?_
        have h2 : i ≤ 9223372036854775807 := h2
        have hne := hne rfl
        unfold upAt putAt
        rw [w64_id (x := i - (b : Int)) (by omega) (by omega)]
        have e1 : (i - (b : Int) == (a : Int)) = false := by rw [beq_eq_false_iff_ne]; omega
        rw [e1]
        by_cases h : i ≥ ((a + 1 : Nat) : Int) + (b : Int)
        · rw [decide_eq_true h, decide_eq_true (by omega : i - (b : Int) > a)]; rfl
        · rw [decide_eq_false h, decide_eq_false (by omega : ¬ (i - (b : Int) > a))]; rfl
      have hu : ref03_Up t ((a + 1 : Nat) : Int) (-1) = some (t.put a .zero) := by
        have := up_m (a + 1) (by omega) (-1) t FU 0 (by unfold FU; omega) hs hi hb (by omega)
        rw [Nat.add_zero, show ((0 : Nat) : Int) = 0 from rfl, hcg] at this
        exact this
      have hbp : (t.put a .zero).big ≤ t.big := by
        have := rebuild_big (f := upAt ((a + 1 : Nat) : Int) (-1)) 0 0 t hs hi 0 (by omega) fun i b _ _ _ => by
          have : (upAt ((a + 1 : Nat) : Int) (-1) i b).big = 2 := rfl
          rw [this]; exact Nat.le_add_right _ _
        rw [show ((0 : Nat) : Int) = 0 from rfl, hcg] at this
        simpa using this
      rw [cond_false, cond_false, hw, bnd_eq hp, bnd_eq hu, bnd_eq (copyTm _ (by omega))]
      exact ⟨_, _, rfl, rfl, by omega⟩
theorem put2 {t s : Trm} (hb : t.big ≤ 1000000) (hi : t.idxB I63 = true) (hsb : s.big ≤ 1000000) (hsi : s.idxB I63 = true) (f : Int) : ∃ r e, subst_Put t f s = some (r, e) ∧ ref03_Put t f s = some (r, e) ∧ r.big ≤ 1000000 := by
  have hsz := t.sz_le_big
  have hsz2 := s.sz_le_big
  have hsp := s.sz_pos
  unfold subst_Put ref03_Put
  rw [bnd_eq (sizeTm t hb), bnd_eq (refCheckTm t hb)]
  rcases err_cases t with ⟨_, he⟩ | ⟨he, hs, h4⟩
  · show ∃ r e, cond (t.err != 0) _ _ = _ ∧ cond (t.err != 0) _ _ = _ ∧ _
    rw [he]; exact ⟨_, _, rfl, rfl, by decide⟩
  rw [he]
  simp only [if_true]
  rw [bne_self_eq_false, cond_false, cond_false, within_ref, bnd_eq (within_eq f)]
  cases hf : within f with
  | false => exact ⟨_, _, rfl, rfl, by decide⟩
  | true =>
    obtain ⟨a, rfl, ha⟩ := within_nat hf
    rw [Bool.not_true, cond_false, cond_false, bnd_eq (sizeTm s hsb), bnd_eq (refCheckTm s hsb)]
    rcases err_cases s with ⟨_, hse⟩ | ⟨hse, hss, hs4⟩
    · show ∃ r e, cond (s.err != 0) _ _ = _ ∧ cond (s.err != 0) _ _ = _ ∧ _
      rw [hse]; exact ⟨_, _, rfl, rfl, by decide⟩
    rw [hse]
    simp only [if_true]
    rw [bne_self_eq_false, cond_false, cond_false, bnd_eq (nearEq t (by omega)), bnd_eq (nearEq s (by omega)), bnd_eq (least_near hs hb), bnd_eq (least_near hss hsb)]
    cases hn : t.near with
    | false => exact ⟨_, _, rfl, rfl, by decide⟩
    | true =>
      cases hn2 : s.near with
      | false => exact ⟨_, _, rfl, rfl, by decide⟩
      | true =>
        have h1 : ref03_Times t a = some ((t.cnt a 0 : Nat) : Int) := by
          have := times_m a (by omega) t FU 0 (by unfold FU; omega) hs (by omega)
          rw [Nat.add_zero] at this
          exact this
        simp only [Bool.not_true, cond_false]
        rw [bnd_eq (countEq t _ (by omega)), count_eqN a (by omega) hs hi (by omega), bnd_eq (refCountTm t (by omega)), bnd_eq h1, bnd_eq (refCountTm s (by omega))]
        have hcl := cnt_le a t 0
        have e1 : w64 ((s.sz : Int) - 1) = ((s.sz - 1 : Nat) : Int) := by rw [w64_id (by omega) (by omega)]; omega
        have hmul : t.cnt a 0 * (s.sz - 1) ≤ 4096 * 4096 := Nat.mul_le_mul (by omega) (by omega)
        have e2 : w64 (((t.cnt a 0 : Nat) : Int) * ((s.sz - 1 : Nat) : Int)) = ((t.cnt a 0 * (s.sz - 1) : Nat) : Int) := by
          rw [← Int.natCast_mul, w64_id (by omega) (by omega)]
        have e3 : w64 ((t.sz : Int) + ((t.cnt a 0 * (s.sz - 1) : Nat) : Int)) = ((t.sz + t.cnt a 0 * (s.sz - 1) : Nat) : Int) := by
          rw [w64_id (by omega) (by omega)]; omega
        rw [e1, e2, e3]
        by_cases hg : t.sz + t.cnt a 0 * (s.sz - 1) > 4096
        · rw [decide_eq_true (by omega : ((t.sz + t.cnt a 0 * (s.sz - 1) : Nat) : Int) > 4096)]
          exact ⟨_, _, rfl, rfl, by decide⟩
        · rw [decide_eq_false (by omega : ¬ ((t.sz + t.cnt a 0 * (s.sz - 1) : Nat) : Int) > 4096), cond_false, cond_false]
          have hcg : t.rebuild (inAt a s) 0 = t.put a s := by
            refine rebuild_congr (b := 0) false 0 t hs hi (by omega) (fun e => by cases e) fun i b h1 h2 hb _ => ?_
            have h2 : i ≤ 9223372036854775807 := h2
            unfold inAt putAt
            rw [w64_id (x := i - (b : Int)) (by omega) (by omega), w64_id (x := (a : Int) + (b : Int)) (by omega) (by omega)]
            have hl := lift_up (t := s) 0 ((a : Int) + (b : Int)) (by omega) hss hsi (by omega)
            rw [show ((0 : Nat) : Int) = 0 from rfl] at hl
            rw [hl]
            by_cases h : i = (a : Int) + (b : Int)
            · rw [if_pos (by simpa using h), if_pos (by rw [beq_iff_eq]; omega)]
            · rw [if_neg (by simpa using h)]
              have e1 : (i - (b : Int) == (a : Int)) = false := by rw [beq_eq_false_iff_ne]; omega
              rw [e1]
              by_cases h3 : i > (a : Int) + (b : Int)
              · rw [decide_eq_true h3, decide_eq_true (by omega : i - (b : Int) > a)]; rfl
              · rw [decide_eq_false h3, decide_eq_false (by omega : ¬ (i - (b : Int) > a))]; rfl
          have hu : ref03_In t a 0 s = some (t.put a s) := by
            have := in_m a (by omega) s hss hsi hsb t FU 0 (by unfold FU; omega) hs hi hb (by omega)
            rw [show ((0 : Nat) : Int) = 0 from rfl, hcg] at this
            exact this
          have hbp : (t.put a s).big ≤ t.big + t.cnt a 0 * s.big := by
            have := rebuild_big (f := inAt a s) a s.big t hs hi 0 (by omega) fun i b _ _ _ => by
              unfold inAt
              by_cases h : i = (a : Int) + (b : Int)
              · rw [if_pos (by simpa using h), if_pos (by omega)]
                have hl := lift_up (t := s) 0 ((a : Int) + (b : Int)) (by omega) hss hsi (by omega)
                rw [show ((0 : Nat) : Int) = 0 from rfl] at hl
                rw [hl]
                have := lift_big (t := s) 0 ((a : Int) + (b : Int)) hss hsi (by omega)
                rw [show ((0 : Nat) : Int) = 0 from rfl] at this
                omega
              · rw [if_neg (by simpa using h)]
                have : ∀ x : Int, (Trm.var x).big = 2 := fun _ => rfl
                split <;> rw [this] <;> exact Nat.le_add_right _ _
            rw [show ((0 : Nat) : Int) = 0 from rfl, hcg] at this
            exact this
          have b1 := big_of_shape t hs
          have b2 := big_of_shape s hss
          have b3 : t.cnt a 0 * s.big ≤ t.cnt a 0 * (65 * s.sz) := Nat.mul_le_mul (Nat.le_refl _) b2
          have b4 : t.cnt a 0 * (65 * s.sz) = 65 * (t.cnt a 0 * (s.sz - 1)) + 65 * t.cnt a 0 := by
            obtain ⟨q, hq⟩ : ∃ q, s.sz = q + 1 := ⟨s.sz - 1, by omega⟩
            rw [hq, Nat.add_sub_cancel, Nat.mul_left_comm, Nat.mul_add, Nat.mul_one, Nat.mul_add]
          rw [bnd_eq (putEq t a s hb hsb), bnd_eq hu, bnd_eq (copyTm _ (by omega))]
          exact ⟨_, _, rfl, rfl, by omega⟩
theorem uses2 {t : Trm} (hb : t.big ≤ 1000000) : ∃ l e, subst_Uses t = some (l, e) ∧ ref03_Uses t = some (l, e) := by
  have hsz := t.sz_le_big
  unfold subst_Uses ref03_Uses
  rw [bnd_eq (checkTm t hb), bnd_eq (refCheckTm t hb)]
  rcases err_cases t with ⟨_, he⟩ | ⟨he, hs, h4⟩
  · rw [he]; exact ⟨_, _, rfl, rfl⟩
  rw [he, bne_self_eq_false, cond_false, cond_false]
  have hh : tr (t.keys 0 []) = t.each (fun s i b => if decide (i ≥ b) then mset s (w64 (i - b)) true else s) 0 [] := by
    have := each_hom tr (f := keyF) (f' := fun s i b => if decide (i ≥ b) then mset s (w64 (i - b)) true else s) (fun s i b => by
      unfold keyF
      cases decide (i ≥ b) with
      | true => simp only [if_true, tr_set]
      | false => rfl) t 0 []
    exact this
  have e1 : tree_Each_ba6 t [] = some (tr (t.keys 0 [])) := by
    unfold tree_Each_ba6
    rw [bnd_id, hh]
    exact usesEach_m t FU 0 [] (by unfold FU; omega)
  have e3 : ref03_Mark_31b t 0 [] = some (tr (t.keys 0 [])) := by
    rw [hh]
    exact mark_m t FU 0 [] (by unfold FU; omega) (by omega)
  have e2 : sortedKeysI (tr (t.keys 0 [])) = some (sortI (t.keys 0 [])) := by
    unfold sortedKeysI
    rw [tr_keys]
    have hl := keys_len t 0 []
    have hr : ∀ v ∈ t.keys 0 [], inI v = true := each_inv (fun s => ∀ v ∈ s, inI v = true) (f := keyF) (fun s i b hs v hv => by
      unfold keyF at hv
      split at hv
      · rcases addK_mem.1 hv with h | h
        · exact hs v h
        · rw [h]; exact w64_in _
      · exact hs v hv) t 0 [] (fun v hv => absurd hv (by simp))
    have : keysOk (t.keys 0 []) = true := by
      simp only [keysOk, Bool.and_eq_true, ndB_iff, List.all_eq_true]
      exact ⟨decide_eq_true (by simp at hl; omega), hr, keys_nodup List.nodup_nil⟩
    rw [this]; rfl
  have e4 : ref03_Sorted (tr (t.keys 0 [])) = some (sortI (t.keys 0 [])) := e2
  rw [bnd_eq e1, bnd_eq e3]
  refine ⟨sortI (t.keys 0 []), 0, ?_, ?_⟩
  · show bnd (sortedKeysI (tr (t.keys 0 []))) _ = _
    rw [bnd_eq e2]
  · rw [bnd_eq e4]
theorem ints_refl (a : List Int) : law03_ints a a = some true := by
  unfold law03_ints
  rw [bne_self_eq_false, cond_false]
  have : ∀ (l : List Int) (i : Nat), l = a.drop i → loopL (fun _ => some true) (fun k3 i4 a2 (x6 : Unit) => idx a (i4 : Int) fun a11 => cond (a2 != a11) (some false) (k3 ())) i l () = some true := by
    intro l
    induction l with
    | nil => intro i _; rfl
    | cons x l ih =>
      intro i h
      have hg : a[i]? = some x := by
        have : (a.drop i)[0]? = some x := by rw [← h]; rfl
        simpa using this
      rw [loopL_cons, idx_nat hg, bne_self_eq_false, cond_false]
      refine ih (i + 1) ?_
      rw [← List.drop_drop, ← h]; rfl
  exact this a 0 rfl
theorem loopL_skip {α R : Type} {fin : Unit → Option R} {step : (Unit → Option R) → Nat → α → Unit → Option R} : ∀ {l : List α} {i : Nat}, (∀ a ∈ l, ∀ (k : Unit → Option R) (i : Nat), step k i a () = k ()) → loopL fin step i l () = fin ()
  | [], _, _ => rfl
  | a :: l, i, h => by
    rw [loopL_cons, h a List.mem_cons_self]
    exact loopL_skip fun b hb => h b (List.mem_cons_of_mem _ hb)
/-- What the law asks of each term. -/
structure Fit (t : Trm) : Prop where
  big : t.big ≤ 1000000
  ix : t.idxB I63 = true
theorem idxB_up {N N' : Int} (h : N ≤ N') (t : Trm) : t.idxB N = true → t.idxB N' = true := by
  induction t using Trm.ind with
  | _ k i ty l ih =>
    simp only [Trm.idxB, idxBs_all, Bool.and_eq_true, List.all_eq_true, Bool.or_eq_true, decide_eq_true_eq]
    exact fun ⟨h1, h2⟩ => ⟨h1.imp id fun e => by omega, fun a ha => ih a ha (h2 a ha)⟩
theorem mod_some (x : Int) : ∃ r, make_Mod x 5 = some r := ⟨_, by unfold make_Mod; rw [nz_ok (by decide), nz_ok (by decide)]⟩
theorem does_law (L : List Int) (a b : Trm) (f y : Int) (ha : a.idxB I63 = true) (hb : b.idxB I63 = true) : law03_SubstDoes L a b f y = some true := by
  unfold law03_SubstDoes
  rw [bnd_eq saneEq, Bool.not_true, cond_false]
  have hfew : make_Few L = some (decide (((L.length : Nat) : Int) ≤ 500)) := rfl
  rw [bnd_eq hfew]
  by_cases hL : L.length ≤ 500
  rotate_left
  · rw [decide_eq_false (by omega)]; rfl
  rw [decide_eq_true (by omega), Bool.not_true, cond_false]
  obtain ⟨r, hr, hrb⟩ := few3 a b
  rw [bnd_eq hr]
  cases r with
  | false => rfl
  | true =>
  obtain ⟨ba, bb⟩ := hrb rfl
  rw [Bool.not_true, cond_false]
  have hnew : make_New L = some (L, 0) := rfl
  rw [bnd_eq hnew]
  dsimp only
  rw [bnd_eq (show make_Context_6f7 ⟨L, 0⟩ = _ from ctxEq hL 0)]
  have hcl : (mkCtx L 0).1.length ≤ 3 := mkCtx_len L 0
  have hcs : ∀ u ∈ (mkCtx L 0).1, sm u := mkCtx_sm L 0
  generalize mkCtx L 0 = c at *
  dsimp only
  rw [bnd_eq (type1Eq hL c.2)]
  have hs : sm (mkType L 1 c.2).1 := mkType_sm L c.2
  generalize mkType L 1 c.2 = s at *
  dsimp only
  rw [bnd_eq (term3Eq hL hcs (by omega) hs s.2)]
  obtain ⟨mx, _⟩ := made3 L hcs (by omega) hs s.2
  generalize mkTerm L 100 3 c.1 s.1 s.2 = x at *
  dsimp only
  rw [bnd_eq (type1Eq hL x.2)]
  have hu : sm (mkType L 1 x.2).1 := mkType_sm L x.2
  generalize mkType L 1 x.2 = u at *
  dsimp only
  rw [bnd_eq (term2Eq hL hcs (by omega) hu u.2)]
  have mz := made2 L hcs (by omega) hu u.2
  generalize mkTerm L 100 2 c.1 u.1 u.2 = z at *
  dsimp only
  have xb := mx.big
  have zb := mz.big
  have fa : Fit a := ⟨by omega, ha⟩
  have fb : Fit b := ⟨by omega, hb⟩
  have fx : Fit x.1 := ⟨by omega, idxB_up (by decide) _ mx.ix⟩
  have fz : Fit z.1 := ⟨by omega, idxB_up (by decide) _ mz.ix⟩
  refine loopL_skip fun t ht k _ => ?_
  have ft : Fit t := by
    rcases List.mem_cons.1 ht with rfl | ht
    · exact fa
    · rcases List.mem_cons.1 ht with rfl | ht
      · exact fx
      · exact absurd ht (by simp)
  obtain ⟨l, e, u1, u2⟩ := uses2 ft.big
  have c1 : subst_Closed t = ref03_Closed t := by unfold subst_Closed ref03_Closed; rw [u1, u2]
  obtain ⟨cl, hcl1⟩ : ∃ cl, ref03_Closed t = some cl := by
    unfold ref03_Closed
    rw [bnd_eq u2]
    cases (l, e).2 == 0 <;> exact ⟨_, rfl⟩
  obtain ⟨m1, hm1⟩ := mod_some f
  obtain ⟨m2, hm2⟩ := mod_some y
  rw [bnd_eq u1, bnd_eq u2, c1, bnd_eq hcl1, bnd_eq hcl1]
  dsimp only
  rw [bne_self_eq_false, cond_false, bnd_eq (ints_refl l), Bool.not_true, cond_false, bne_self_eq_false, cond_false, bne_self_eq_false, cond_false, bnd_eq hm1, bnd_eq hm2]
  refine loopL_skip (fin := fun _ => k ()) fun p _ k2 _ => ?_
  obtain ⟨r1, e1, s1, s2, s3⟩ := lift2 ft.big ft.ix p.e0 p.e1
  obtain ⟨r2, e2, t1, t2, t3⟩ := lower2 ft.big ft.ix p.e0
  rw [bnd_eq s1, bnd_eq s2, bnd_eq t1, bnd_eq t2]
  dsimp only
  rw [bne_self_eq_false, cond_false, bnd_eq (sameTmEq r1 r1 s3), (sameTm_eq r1 r1).2 rfl, Bool.not_true, cond_false, bne_self_eq_false, cond_false, bnd_eq (sameTmEq r2 r2 t3), (sameTm_eq r2 r2).2 rfl, Bool.not_true, cond_false]
  refine loopL_skip (fin := fun _ => k2 ()) fun q hq k3 _ => ?_
  have fq : Fit q := by
    rcases List.mem_cons.1 hq with rfl | hq
    · exact fb
    · rcases List.mem_cons.1 hq with rfl | hq
      · exact fz
      · exact absurd hq (by simp)
  obtain ⟨r3, e3, w1, w2, w3⟩ := put2 ft.big ft.ix fq.big fq.ix p.e0
  rw [bnd_eq w1, bnd_eq w2]
  dsimp only
  rw [bne_self_eq_false, cond_false, bnd_eq (sameTmEq r3 r3 w3), (sameTm_eq r3 r3).2 rfl, Bool.not_true, cond_false]
end Go.AM

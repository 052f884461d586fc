/-
  What the printed functions of the trees reckon: types.
  What the printed functions reckon: comparisons, and what is made out of a list of numbers.
-/
import Derived.Test.YtdbgmmeenljnoaaGreatDoorQD0F
import Derived.Test.YtdbgmmeenljnoaaGreatDoorAnD
import Derived.Test.YtdbgmmeenljnoaaGreatDoorAmS
set_option linter.unusedVariables false
set_option linter.unusedSimpArgs false
namespace Go.AM
open Go
theorem szTys_sum : ∀ l : List Typ, szTys l = (l.map Typ.sz).sum
  | [] => rfl
  | a :: l => by simp [szTys, szTys_sum l]
theorem szTms_sum : ∀ l : List Trm, szTms l = (l.map Trm.sz).sum
  | [] => rfl
  | a :: l => by simp [szTms, szTms_sum l]
theorem shapeTys_all : ∀ l : List Typ, shapeTys l = l.all Typ.shape
  | [] => rfl
  | a :: l => by simp [shapeTys, shapeTys_all l]
theorem shapeTms_all : ∀ l : List Trm, shapeTms l = l.all Trm.shape
  | [] => rfl
  | a :: l => by simp [shapeTms, shapeTms_all l]
theorem Typ.sz_mk (k : Int) (l : List Typ) : (Typ.mk k l).sz = 1 + szTys l := by simp [Typ.sz]
theorem Trm.sz_mk (k i : Int) (t : Typ) (l : List Trm) : (Trm.mk k i t l).sz = 1 + szTms l := by simp [Trm.sz]
theorem Trm.big_mk (k i : Int) (t : Typ) (l : List Trm) : (Trm.mk k i t l).big = 1 + t.sz + bigTms l := by simp [Trm.big]; try omega
theorem fuel {P : Nat → Prop} (h : ∀ m, 1000000 ≤ m → P m) : P FU := h FU (by unfold FU; omega)
theorem copyTy_m (t : Typ) : ∀ m, t.sz ≤ m → t.sz ≤ 1000000 → ref01_Copy_m m t = some t := by
  induction t using Typ.ind with
  | _ k l ih =>
    intro m hm hs
    rw [Typ.sz_mk] at hm hs
    cases m with
    | zero => omega
    | succ m =>
      have hl := szTys_len l
      show ref01_Copy_b (fun t => ref01_Copy_m m t) (.mk k l) = _
      refine (loopL_push (f := fun a => a) (fun a ha => ih a ha m (by have := szTys_mem ha; omega) (by have := szTys_mem ha; omega)) (by show 0 + l.length ≤ _; omega)).trans ?_
      simp
theorem copyTy (t : Typ) (h : t.sz ≤ 1000000) : ref01_Copy t = some t := copyTy_m t FU (by unfold FU; omega) h
theorem ownTy_m (t : Typ) : ∀ m, t.sz ≤ m → t.sz ≤ 1000000 → tree_OwnType_m m t = some t := by
  induction t using Typ.ind with
  | _ k l ih =>
    intro m hm hs
    rw [Typ.sz_mk] at hm hs
    cases m with
    | zero => omega
    | succ m =>
      have hl := szTys_len l
      show tree_OwnType_b (fun t => tree_OwnType_m m t) (.mk k l) = _
      refine (loopL_push (f := fun a => a) (fun a ha => ih a ha m (by have := szTys_mem ha; omega) (by have := szTys_mem ha; omega)) (by show 0 + l.length ≤ _; omega)).trans ?_
      simp
theorem ownTy (t : Typ) (h : t.sz ≤ 1000000) : tree_OwnType t = some t := ownTy_m t FU (by unfold FU; omega) h
theorem copyTm_m (t : Trm) : ∀ m, t.sz ≤ m → t.big ≤ 1000000 → ref02_Copy_m m t = some t := by
  induction t using Trm.ind with
  | _ k i ty l ih =>
    intro m hm hs
    rw [Trm.sz_mk] at hm
    rw [Trm.big_mk] at hs
    cases m with
    | zero => omega
    | succ m =>
      have hl := bigTms_len l
      show ref02_Copy_b (fun t => ref02_Copy_m m t) (.mk k i ty l) = _
      refine (loopL_push (f := fun a => a) (fun a ha => ih a ha m (by have := szTms_mem ha; omega) (by have := bigTms_mem ha; omega)) (by show 0 + l.length ≤ _; omega)).trans ?_
      show bnd (ref01_Copy ty) _ = _
      rw [bnd_eq (copyTy ty (by omega))]
      simp
theorem copyTm (t : Trm) (h : t.big ≤ 1000000) : ref02_Copy t = some t := copyTm_m t FU (by have := t.sz_le_big; unfold FU; omega) h
theorem nodeN (k : Int) (l : List Trm) (h : bigTms l ≤ 1000000) : ref02_N k l = some (tm k l) := by
  have hl := bigTms_len l
  unfold ref02_N
  refine (loopL_push (f := fun a => a) (fun a ha => copyTm a (by have := bigTms_mem ha; omega)) (by show 0 + l.length ≤ _; omega)).trans ?_
  simp; rfl
theorem nodeT (k : Int) (s : Typ) (l : List Trm) (h : bigTms l ≤ 1000000) (hs : s.sz ≤ 1000000) : ref02_T k s l = some (.mk k 0 s l) := by
  unfold ref02_T
  rw [bnd_eq (nodeN k l h), bnd_eq (copyTy s hs)]
  rfl
/-! ### What is right -/
theorem typeNodes_m (t : Typ) : ∀ m, t.sz ≤ m → t.sz ≤ 1000000 → tree_typeNodes_m m t = some (if t.shape then ((t.sz : Nat) : Int) else 0, t.shape) := by
  induction t using Typ.ind with
  | _ k l ih =>
    intro m hm hs
    rw [Typ.sz_mk] at hm hs
    cases m with
    | zero => omega
    | succ m =>
      have hk3 : ∀ n : Nat, tree_typeNodes_k3 (fun t => tree_typeNodes_m m t) (.mk k l) n = some (if (n == l.length && shapeTys l) then ((1 + szTys l : Nat) : Int) else 0, n == l.length && shapeTys l) := fun n => by
        unfold tree_typeNodes_k3
        show cond (((l.length : Nat) : Int) != (n : Int)) _ _ = _
        rw [nat_bne]
        by_cases hn : l.length = n
        · subst hn
          rw [bne_self_eq_false, cond_false, beq_self_eq_true, Bool.true_and]
          have := loopL_sum (R := Int × Bool) (fin := fun x17 => some (x17, true)) (bad := some (0, false)) (self := fun t => tree_typeNodes_m m t) (sz := Typ.sz) (ok := Typ.shape) (l := l) (i := 0) (x := 1)
            (fun a ha => ih a ha m (by have := szTys_mem ha; omega) (by have := szTys_mem ha; omega)) (by rw [← szTys_sum]; omega)
          refine this.trans ?_
          rw [← szTys_sum, ← shapeTys_all]
          cases shapeTys l <;> rfl
        · have e1 : (l.length != n) = true := by simpa using hn
          have e2 : (n == l.length) = false := by simpa using fun h => hn h.symm
          rw [e1, e2]; rfl
      show tree_typeNodes_b (fun t => tree_typeNodes_m m t) (.mk k l) = _
      simp only [Typ.shape, Typ.sz_mk, wantTy]
      unfold tree_typeNodes_b tree_typeNodes_k1 tree_typeNodes_k2
      show cond (k == 1) _ (cond (k == 2) _ _) = _
      have h0 := hk3 0
      have h2 := hk3 2
      cases e1 : k == 1 with
      | true => simpa using h0
      | false =>
        cases e2 : k == 2 with
        | true => simpa using h0
        | false =>
          cases e5 : k == 5 with
          | true => simp only [cond_false, Typ.kind, e5, cond_true]; simpa using h0
          | false =>
            cases e3 : k == 3 with
            | true => simp only [cond_false, Typ.kind, e5, e3, cond_true]; simpa using h2
            | false =>
              cases e4 : k == 4 with
              | true => simp only [cond_false, Typ.kind, e5, e3, e4, cond_true]; simpa using h2
              | false => simp [Typ.kind, e5, e3, e4]
theorem checkType (t : Typ) (h : t.sz ≤ 1000000) : tree_CheckType t = some (if t.err = 0 then ((t.sz : Nat) : Int) else 0, t.err) := by
  unfold tree_CheckType
  rw [bnd_eq (show tree_typeNodes t = _ from typeNodes_m t FU (by unfold FU; omega) h)]
  unfold Typ.err
  cases t.shape with
  | false => rfl
  | true =>
    simp only [if_true, Bool.not_true, cond_false]
    by_cases hc : 64 < t.sz
    · have : decide (((t.sz : Nat) : Int) > 64) = true := decide_eq_true (by omega)
      rw [this, if_pos hc]; rfl
    · have : decide (((t.sz : Nat) : Int) > 64) = false := decide_eq_false (by omega)
      rw [this, if_neg hc]; rfl
theorem arity_eq (k : Int) : tree_Arity k = some (match arity k with | some n => ((n : Int), true) | none => (0, false)) := by
  unfold tree_Arity
  by_cases h1 : k < 1
  · rw [arity_none (.inl h1)]; simp [h1]
  · by_cases h2 : 14 ≤ k
    · rw [arity_none (.inr h2)]; simp [h1, h2]
    · have : k = 1 ∨ k = 2 ∨ k = 3 ∨ k = 4 ∨ k = 5 ∨ k = 6 ∨ k = 7 ∨ k = 8 ∨ k = 9 ∨ k = 10 ∨ k = 11 ∨ k = 12 ∨ k = 13 := by omega
      rcases this with rfl | rfl | rfl | rfl | rfl | rfl | rfl | rfl | rfl | rfl | rfl | rfl | rfl <;> rfl
theorem typed_eq (k : Int) : tree_Typed k = some (typed k) := by
  unfold tree_Typed typed
  cases h1 : k == 2 <;> cases h2 : k == 6 <;> simp
theorem noType_eq (t : Typ) : tree_NoType t = some t.none := by
  unfold tree_NoType Typ.none
  rw [nat_beq0]
  cases t.kind == 0 <;> rfl
theorem termNodes_m (t : Trm) : ∀ m, t.sz ≤ m → t.big ≤ 1000000 → tree_termNodes_m m t = some (if t.shape then ((t.sz : Nat) : Int) else 0, t.shape) := by
  induction t using Trm.ind with
  | _ k i ty l ih =>
    intro m hm hs
    rw [Trm.sz_mk] at hm
    rw [Trm.big_mk] at hs
    cases m with
    | zero => omega
    | succ m =>
      have hbz := szTms_le_big l (fun a _ => a.sz_le_big)
      have hk2 : tree_termNodes_k2 (fun t => tree_termNodes_m m t) (.mk k i ty l) () = some (if shapeTms l then ((1 + szTms l : Nat) : Int) else 0, shapeTms l) := by
        unfold tree_termNodes_k2
        have := loopL_sum (R := Int × Bool) (fin := fun x17 => some (x17, true)) (bad := some (0, false)) (self := fun t => tree_termNodes_m m t) (sz := Trm.sz) (ok := Trm.shape) (l := l) (i := 0) (x := 1)
          (fun a ha => ih a ha m (by have := szTms_mem ha; omega) (by have := bigTms_mem ha; omega)) (by rw [← szTms_sum]; omega)
        refine this.trans ?_
        rw [← szTms_sum, ← shapeTms_all]
        cases shapeTms l <;> rfl
      have hk1 : tree_termNodes_k1 (fun t => tree_termNodes_m m t) (.mk k i ty l) () = some (if (if typed k then ty.okB else ty.none) && shapeTms l then ((1 + szTms l : Nat) : Int) else 0, (if typed k then ty.okB else ty.none) && shapeTms l) := by
        unfold tree_termNodes_k1
        show bnd (tree_Typed k) _ = _
        rw [bnd_eq (typed_eq k)]
        cases typed k with
        | true =>
          rw [cond_true]
          show bnd (tree_CheckType ty) _ = _
          rw [bnd_eq (checkType ty (by omega))]
          simp only [if_true]
          have := Typ.err_ok ty
          cases he : ty.okB with
          | true =>
            rw [he, beq_iff_eq] at this
            rw [this]
            simpa using hk2
          | false =>
            rw [he] at this
            have hne : (ty.err != 0) = true := by rw [bne, this]; rfl
            rw [hne]; rfl
        | false =>
          rw [cond_false]
          show bnd (tree_NoType ty) _ = _
          rw [bnd_eq (noType_eq ty)]
          cases ty.none with
          | true => simpa using hk2
          | false => rfl
      show tree_termNodes_b (fun t => tree_termNodes_m m t) (.mk k i ty l) = _
      unfold tree_termNodes_b
      show bnd (tree_Arity k) _ = _
      rw [bnd_eq (arity_eq k)]
      have hiff := Trm.shape_iff (k := k) (i := i) (t := ty) (l := l)
      have key : (Trm.mk k i ty l).shape = (decide (arity k = some l.length) && (decide (0 ≤ i) && ((decide (i = 0) || decide (k = 1)) && ((if typed k then ty.okB else ty.none) && shapeTms l)))) := by
        rw [Bool.eq_iff_iff, hiff]
        simp only [Bool.and_eq_true, Bool.or_eq_true, decide_eq_true_eq, shapeTms_iff]
      rw [key, Trm.sz_mk]
      cases ha : arity k with
      | none => simp
      | some n =>
        simp only [Bool.not_true, cond_false]
        show cond (((l.length : Nat) : Int) != (n : Int)) _ _ = _
        rw [nat_bne]
        by_cases hn : l.length = n
        · subst hn
          rw [bne_self_eq_false, cond_false]
          show cond (decide (i < 0)) _ (cond (i != 0) (cond (k != 1) _ _) _) = _
          by_cases hi : i < 0
          · have : ¬ (0 ≤ i) := by omega
            simp [hi, this]
          · have h0 : 0 ≤ i := by omega
            have e0 : decide (i < 0) = false := by simpa using hi
            rw [e0, cond_false]
            by_cases hz : i = 0
            · subst hz
              rw [bne_self_eq_false, cond_false, hk1]; simp
            · have ez : (i != 0) = true := by simpa using hz
              rw [ez, cond_true]
              by_cases h1 : k = 1
              · subst h1
                rw [bne_self_eq_false, cond_false, hk1]; simp [h0]
              · have e1 : (k != 1) = true := by simpa using h1
                rw [e1, cond_true]; simp [hz, h1]
        · have e1 : (l.length != n) = true := by simpa using hn
          rw [e1, cond_true]
          have : ¬ (some n = some l.length) := fun h => hn (by injection h with h; exact h.symm)
          simp [this]
theorem checkTerm (t : Trm) (h : t.big ≤ 1000000) : tree_CheckTerm t = some (if t.err = 0 then ((t.sz : Nat) : Int) else 0, t.err) := by
  unfold tree_CheckTerm
  rw [bnd_eq (show tree_termNodes t = _ from termNodes_m t FU (by have := t.sz_le_big; unfold FU; omega) h)]
  unfold Trm.err
  cases t.shape with
  | false => rfl
  | true =>
    simp only [if_true, Bool.not_true, cond_false]
    by_cases hc : 4096 < t.sz
    · have : decide (((t.sz : Nat) : Int) > 4096) = true := decide_eq_true (by omega)
      rw [this, if_pos hc]; rfl
    · have : decide (((t.sz : Nat) : Int) > 4096) = false := decide_eq_false (by omega)
      rw [this, if_neg hc]; rfl
theorem sizeTm (t : Trm) (h : t.big ≤ 1000000) : terms_Size t = some (if t.err = 0 then ((t.sz : Nat) : Int) else 0, t.err) := by
  unfold terms_Size; rw [bnd_eq (checkTerm t h)]
/-! ### Walks over the variables -/
theorem each_mk {S : Type} (f : S → Int → Int → S) (k i : Int) (ty : Typ) (l : List Trm) (b : Int) (s : S) : (Trm.mk k i ty l).each f b s = l.foldl (fun s a => a.each f (if k == 2 then w64 (b + 1) else b) s) (if k == 1 then f s i b else s) := by
  have : ∀ (l : List Trm) (b : Int) (s : S), eachs f l b s = l.foldl (fun s a => a.each f b s) s := by
    intro l
    induction l with
    | nil => intro b s; rfl
    | cons a l ih => intro b s; simp only [eachs, List.foldl_cons, ih]
  simp only [Trm.each, this]
theorem nearEach_m (t : Trm) : ∀ (m : Nat) (b : Int) (s : Bool), t.sz ≤ m → tree_Each_1_d04_m m t b s = some (t.each (fun s i _ => s && decide (i ≤ 536870912)) b s) := by
  induction t using Trm.ind with
  | _ k i ty l ih =>
    intro m b s hm
    rw [Trm.sz_mk] at hm
    cases m with
    | zero => omega
    | succ m =>
      have hk2 : ∀ (b : Int) (s : Bool), tree_Each_1_d04_k2 (fun t b s => tree_Each_1_d04_m m t b s) (.mk k i ty l) s b = some (l.foldl (fun s a => a.each (fun s i _ => s && decide (i ≤ 536870912)) b s) s) := fun b s => by
        unfold tree_Each_1_d04_k2
        exact loopL_fold (self := fun a x => tree_Each_1_d04_m m a b x) (fun a ha x => ih a ha m b x (by have : a.sz ≤ szTms l := szTms_mem ha; omega))
      rw [each_mk]
      show tree_Each_1_d04_b (fun t b s => tree_Each_1_d04_m m t b s) (.mk k i ty l) b s = _
      unfold tree_Each_1_d04_b tree_Each_1_d04_k1 tree_Near_1_604
      show cond (k == 1) (bnd (cond s (some (decide (i ≤ 536870912))) (some false)) fun r2 => cond (k == 2) _ _) (cond (k == 2) _ _) = _
      have e1 : (cond s (some (decide (i ≤ 536870912))) (some false)) = some (s && decide (i ≤ 536870912)) := by cases s <;> rfl
      rw [e1]
      cases k == 1 <;> cases k == 2 <;> simp only [cond_true, cond_false, bnd_some, hk2] <;> rfl
theorem nearEq (t : Trm) (h : t.sz ≤ 1000000) : tree_Near t = some t.near := by
  unfold tree_Near tree_Each_322
  rw [bnd_id, bnd_id]
  exact nearEach_m t FU 0 true (by unfold FU; omega)
theorem countEach_m (v : Int) (t : Trm) : ∀ (m : Nat) (b : Int) (s : Int), t.sz ≤ m → tree_Each_1_436_m m t b v s = some (t.each (fun s i b => if w64 (i - b) == v then w64 (s + 1) else s) b s) := by
  induction t using Trm.ind with
  | _ k i ty l ih =>
    intro m b s hm
    rw [Trm.sz_mk] at hm
    cases m with
    | zero => omega
    | succ m =>
      have hk2 : ∀ (b : Int) (s : Int), tree_Each_1_436_k2 (fun t b v s => tree_Each_1_436_m m t b v s) (.mk k i ty l) v s b = some (l.foldl (fun s a => a.each (fun s i b => if w64 (i - b) == v then w64 (s + 1) else s) b s) s) := fun b s => by
        unfold tree_Each_1_436_k2
        exact loopL_fold (self := fun a x => tree_Each_1_436_m m a b v x) (fun a ha x => ih a ha m b x (by have : a.sz ≤ szTms l := szTms_mem ha; omega))
      rw [each_mk]
      show tree_Each_1_436_b (fun t b v s => tree_Each_1_436_m m t b v s) (.mk k i ty l) b v s = _
      unfold tree_Each_1_436_b tree_Each_1_436_k1 tree_Count_1_9d7
      show cond (k == 1) (bnd (cond (w64 (i - b) == v) _ _) fun r2 => cond (k == 2) _ _) (cond (k == 2) _ _) = _
      cases k == 1 <;> cases k == 2 <;> cases w64 (i - b) == v <;> simp only [cond_true, cond_false, bnd_some, hk2] <;> rfl
theorem countEq (t : Trm) (v : Int) (h : t.sz ≤ 1000000) : tree_Count t v = some (t.count v) := by
  unfold tree_Count tree_Each_746
  rw [bnd_id, bnd_id]
  exact countEach_m v t FU 0 0 (by unfold FU; omega)
theorem rebuild_node (f : Int → Int → Trm) (k i : Int) (ty : Typ) (l : List Trm) (b : Int) (h : (k == 1) = false) : (Trm.mk k i ty l).rebuild f b = .mk k i ty (l.map (·.rebuild f (if k == 2 then w64 (b + 1) else b))) := by
  simp only [Trm.rebuild, h, rebuilds_map]; rfl
theorem liftOne (i b at_ by_ : Int) : tree_Lift_1_9d7 i b at_ by_ = some (liftAt at_ by_ i b) := by
  unfold tree_Lift_1_9d7 tree_Lift_1_9d7_k1 liftAt
  cases decide (w64 (i - b) ≥ at_) <;> rfl
theorem liftReb_m (at_ by_ : Int) (t : Trm) : ∀ (m : Nat) (b : Int), t.sz ≤ m → t.big ≤ 1000000 → tree_Rebuild_1_253_m m t b at_ by_ = some (t.rebuild (liftAt at_ by_) b) := by
  induction t using Trm.ind with
  | _ k i ty l ih =>
    intro m b hm hs
    rw [Trm.sz_mk] at hm
    rw [Trm.big_mk] at hs
    cases m with
    | zero => omega
    | succ m =>
      have hl := bigTms_len l
      have hk1 : ∀ b : Int, tree_Rebuild_1_253_k1 (fun t b o2 o3 => tree_Rebuild_1_253_m m t b o2 o3) (.mk k i ty l) at_ by_ ty b = some (.mk k i ty (l.map (·.rebuild (liftAt at_ by_) b))) := fun b => by
        unfold tree_Rebuild_1_253_k1
        refine (loopL_push (self := fun a => tree_Rebuild_1_253_m m a b at_ by_) (f := fun a => a.rebuild (liftAt at_ by_) b) (fun a ha => ih a ha m b (by have := szTms_mem ha; omega) (by have := bigTms_mem ha; omega)) (by show 0 + l.length ≤ _; omega)).trans ?_
        simp
      show tree_Rebuild_1_253_b (fun t b o2 o3 => tree_Rebuild_1_253_m m t b o2 o3) (.mk k i ty l) b at_ by_ = _
      unfold tree_Rebuild_1_253_b
      show cond (k == 1) (bnd (tree_Lift_1_9d7 i b at_ by_) _) (bnd (tree_OwnType ty) fun r4 => cond (k == 2) _ _) = _
      rw [liftOne, bnd_some, bnd_eq (ownTy ty (by omega))]
      cases h1 : k == 1 with
      | true => simp only [cond_true, Trm.rebuild, h1]; rfl
      | false =>
        rw [rebuild_node _ _ _ _ _ _ h1]
        cases h2 : k == 2 <;> simp only [cond_true, cond_false, hk1] <;> rfl
theorem liftEq (t : Trm) (at_ by_ : Int) (h : t.big ≤ 1000000) : tree_Lift t at_ by_ = some (t.lift at_ by_) := by
  unfold tree_Lift tree_Rebuild_591
  rw [bnd_id, bnd_id]
  exact liftReb_m at_ by_ t FU 0 (by have := t.sz_le_big; unfold FU; omega) h
theorem putOne (i b at_ : Int) (s : Trm) (hs : s.big ≤ 1000000) : tree_Put_1_fa2 i b at_ s = some (putAt at_ s i b) := by
  unfold tree_Put_1_fa2 putAt
  rw [liftEq s _ _ hs]
  cases w64 (i - b) == at_ <;> cases decide (w64 (i - b) > at_) <;> rfl
theorem putReb_m (at_ : Int) (s : Trm) (hsb : s.big ≤ 1000000) (t : Trm) : ∀ (m : Nat) (b : Int), t.sz ≤ m → t.big ≤ 1000000 → tree_Rebuild_1_a63_m m t b at_ s = some (t.rebuild (putAt at_ s) b) := by
  induction t using Trm.ind with
  | _ k i ty l ih =>
    intro m b hm hs
    rw [Trm.sz_mk] at hm
    rw [Trm.big_mk] at hs
    cases m with
    | zero => omega
    | succ m =>
      have hl := bigTms_len l
      have hk1 : ∀ b : Int, tree_Rebuild_1_a63_k1 (fun t b o2 o3 => tree_Rebuild_1_a63_m m t b o2 o3) (.mk k i ty l) at_ s ty b = some (.mk k i ty (l.map (·.rebuild (putAt at_ s) b))) := fun b => by
        unfold tree_Rebuild_1_a63_k1
        refine (loopL_push (self := fun a => tree_Rebuild_1_a63_m m a b at_ s) (f := fun a => a.rebuild (putAt at_ s) b) (fun a ha => ih a ha m b (by have := szTms_mem ha; omega) (by have := bigTms_mem ha; omega)) (by show 0 + l.length ≤ _; omega)).trans ?_
        simp
      show tree_Rebuild_1_a63_b (fun t b o2 o3 => tree_Rebuild_1_a63_m m t b o2 o3) (.mk k i ty l) b at_ s = _
      unfold tree_Rebuild_1_a63_b
      show cond (k == 1) (bnd (tree_Put_1_fa2 i b at_ s) _) (bnd (tree_OwnType ty) fun r4 => cond (k == 2) _ _) = _
      rw [putOne _ _ _ _ hsb, bnd_some, bnd_eq (ownTy ty (by omega))]
      cases h1 : k == 1 with
      | true => simp only [cond_true, Trm.rebuild, h1]; rfl
      | false =>
        rw [rebuild_node _ _ _ _ _ _ h1]
        cases h2 : k == 2 <;> simp only [cond_true, cond_false, hk1] <;> rfl
theorem putEq (t : Trm) (at_ : Int) (s : Trm) (h : t.big ≤ 1000000) (hs : s.big ≤ 1000000) : tree_Put t at_ s = some (t.put at_ s) := by
  unfold tree_Put tree_Rebuild_9ab
  rw [bnd_id, bnd_id]
  exact putReb_m at_ s hs t FU 0 (by have := t.sz_le_big; unfold FU; omega) h
end Go.AM
set_option linter.unusedVariables false
set_option linter.unusedSimpArgs false
namespace Go.AM
open Go
def all2 {α : Type} (f : α → α → Bool) : List α → List α → Bool
  | [], [] => true
  | a :: l, b :: r => f a b && all2 f l r
  | _, _ => false
theorem sameTys_all2 : ∀ l r : List Typ, sameTys l r = all2 Typ.same l r
  | [], [] => rfl
  | a :: l, b :: r => by simp [sameTys, all2, sameTys_all2 l r]
  | [], _ :: _ => rfl
  | _ :: _, [] => rfl
theorem sameTms_all2 : ∀ l r : List Trm, sameTms l r = all2 Trm.same l r
  | [], [] => rfl
  | a :: l, b :: r => by simp [sameTms, all2, sameTms_all2 l r]
  | [], _ :: _ => rfl
  | _ :: _, [] => rfl
theorem all2_len {α : Type} (f : α → α → Bool) : ∀ l r : List α, l.length ≠ r.length → all2 f l r = false
  | [], [], h => absurd rfl h
  | a :: l, b :: r, h => by simp only [all2]; rw [all2_len f l r (by simpa using h), Bool.and_false]
  | [], _ :: _, _ => rfl
  | _ :: _, [], _ => rfl
theorem loopL_all2 {α R : Type} {fin : Unit → Option R} {bad : Option R} {self : α → α → Option Bool} {f : α → α → Bool} {r : List α} : ∀ {l : List α} {i : Nat}, (∀ a ∈ l, ∀ b ∈ r, self a b = some (f a b)) → i + l.length = r.length →
    loopL fin (fun k i a (_ : Unit) => idx r (i : Int) fun b => bnd (self a b) fun q => cond (!q) bad (k ())) i l () = cond (all2 f l (r.drop i)) (fin ()) bad
  | [], i, _, hl => by
    have : r.drop i = [] := List.drop_of_length_le (by simp at hl; omega)
    rw [this]; rfl
  | a :: l, i, h, hl => by
    simp only [List.length_cons] at hl
    have hi : i < r.length := by omega
    rw [loopL_cons, idx_nat (List.getElem?_eq_getElem hi), bnd_eq (h a List.mem_cons_self _ (List.getElem_mem hi)), List.drop_eq_getElem_cons hi]
    simp only [all2]
    rcases Bool.eq_false_or_eq_true (f a r[i]) with hf | hf
    rotate_left
    · rw [hf]; rfl
    · rw [hf]
      simp only [Bool.not_true, cond_false, Bool.true_and]
      exact loopL_all2 (fun b hb => h b (List.mem_cons_of_mem _ hb)) (by omega)
theorem sameTy_m (t : Typ) : ∀ (m : Nat) (u : Typ), t.sz ≤ m → ref01_Same_m m t u = some (t.same u) := by
  induction t using Typ.ind with
  | _ k l ih =>
    intro m u hm
    obtain ⟨k', r⟩ := u
    rw [Typ.sz_mk] at hm
    cases m with
    | zero => omega
    | succ m =>
      show ref01_Same_b (fun a b => ref01_Same_m m a b) (.mk k l) (.mk k' r) = _
      unfold ref01_Same_b
      show cond (k != k') _ (cond (((l.length : Nat) : Int) != ((r.length : Nat) : Int)) _ _) = _
      simp only [Typ.same, nat_bne]
      by_cases hk : k = k'
      · subst hk
        rw [bne_self_eq_false, cond_false, beq_self_eq_true, Bool.true_and, sameTys_all2]
        by_cases hl : l.length = r.length
        · rw [show (l.length != r.length) = false by simp [hl], cond_false]
          refine (loopL_all2 (self := fun a b => ref01_Same_m m a b) (f := Typ.same) (l := l) (r := r) (i := 0) (fun a ha b _ => ih a ha m b (by have : a.sz ≤ szTys l := szTys_mem ha; omega)) (by omega)).trans ?_
          rw [List.drop_zero]
          cases all2 Typ.same l r <;> rfl
        · rw [show (l.length != r.length) = true by simpa using hl, cond_true, all2_len _ _ _ hl]
      · have e1 : (k != k') = true := by simpa using hk
        have e2 : (k == k') = false := by simpa using hk
        rw [e1, e2]; rfl
theorem sameTyEq (t u : Typ) (h : t.sz ≤ 1000000) : ref01_Same t u = some (t.same u) := sameTy_m t FU u (by unfold FU; omega)
theorem sameTm_m (t : Trm) : ∀ (m : Nat) (u : Trm), t.sz ≤ m → t.big ≤ 1000000 → ref02_Same_m m t u = some (t.same u) := by
  induction t using Trm.ind with
  | _ k i ty l ih =>
    intro m u hm hb
    obtain ⟨k', i', ty', r⟩ := u
    rw [Trm.sz_mk] at hm
    rw [Trm.big_mk] at hb
    cases m with
    | zero => omega
    | succ m =>
      show ref02_Same_b (fun a b => ref02_Same_m m a b) (.mk k i ty l) (.mk k' i' ty' r) = _
      unfold ref02_Same_b
      show cond (k != k') _ (cond (i != i') _ (bnd (ref01_Same ty ty') fun r3 => cond (!r3) _ (cond (((l.length : Nat) : Int) != ((r.length : Nat) : Int)) _ _))) = _
      rw [bnd_eq (sameTyEq ty ty' (by omega))]
      simp only [Trm.same, nat_bne]
      by_cases hk : k = k'
      · subst hk
        rw [bne_self_eq_false, cond_false, beq_self_eq_true, Bool.true_and]
        by_cases hi : i = i'
        · subst hi
          rw [bne_self_eq_false, cond_false, beq_self_eq_true]
          cases hty : ty.same ty' with
          | false => simp
          | true =>
            rw [sameTms_all2]
            simp only [Bool.not_true, cond_false, Bool.true_and]
            by_cases hl : l.length = r.length
            · rw [show (l.length != r.length) = false by simp [hl], cond_false]
              refine (loopL_all2 (self := fun a b => ref02_Same_m m a b) (f := Trm.same) (l := l) (r := r) (i := 0) (fun a ha b _ => ih a ha m b (by have : a.sz ≤ szTms l := szTms_mem ha; omega) (by have : a.big ≤ bigTms l := bigTms_mem ha; omega)) (by omega)).trans ?_
              rw [List.drop_zero]
              cases all2 Trm.same l r <;> rfl
            · rw [show (l.length != r.length) = true by simpa using hl, cond_true, all2_len _ _ _ hl]
        · have e1 : (i != i') = true := by simpa using hi
          have e2 : (i == i') = false := by simpa using hi
          rw [e1, e2]; rfl
      · have e1 : (k != k') = true := by simpa using hk
        have e2 : (k == k') = false := by simpa using hk
        rw [e1, e2]; rfl
theorem sameTmEq (t u : Trm) (h : t.big ≤ 1000000) : ref02_Same t u = some (t.same u) := sameTm_m t FU u (by have := t.sz_le_big; unfold FU; omega) h

/-! ### Drawing -/
abbrev Dk (L : List Int) (a : Nat) : S_make_Deck := ⟨L, (a : Int)⟩
theorem modEq (x : Int) {n : Int} (h : 1 ≤ n) : make_Mod x n = some (md x n) := by
  unfold make_Mod md; rw [nz_ok (by omega), nz_ok (by omega)]
theorem nextEq {L : List Int} (hL : L.length ≤ 500) {n : Int} (hn : 1 ≤ n) (a : Nat) : make_Deck_Next_eb1 n (Dk L a) = some ((next L n a).1, ((next L n a).2 : Int)) := by
  unfold make_Deck_Next_eb1 next
  rw [show decide (n < 1) = false from decide_eq_false (by omega), cond_false, Bool.false_or]
  show cond (decide ((a : Int) ≥ ((L.length : Nat) : Int))) (some (0, (a : Int))) _ = _
  by_cases ha : (a : Int) ≥ L.length
  · rw [decide_eq_true ha]; rfl
  · rw [decide_eq_false ha, cond_false]
    have hlt : a < L.length := by omega
    show idx L (a : Int) _ = _
    rw [idx_nat (List.getElem?_eq_getElem hlt), bnd_eq (modEq _ hn)]
    show some (md L[a] n, w64 ((a : Int) + 1)) = _
    rw [w64_id (by omega) (by omega), if_neg (by simp)]
    simp [hlt]
theorem typeEq_m {L : List Int} (hL : L.length ≤ 500) : ∀ (d : Nat) (m a : Nat), d ≤ 5 → d < m → make_Type_eb1_m m d (Dk L a) = some ((mkType L d a).1, ((mkType L d a).2 : Int)) := by
  intro d
  induction d with
  | zero =>
    intro m a hd hm
    cases m with
    | zero => omega
    | succ m =>
      show make_Type_eb1_b (fun depth o0 => make_Type_eb1_m m depth o0) ((0 : Nat) : Int) (Dk L a) = _
      unfold make_Type_eb1_b make_Type_eb1_k1
      rw [bnd_eq (nextEq hL (by omega) a)]
      simp only [mkType, ref01_Nat, ref01_List, ref01_Unit, bnd_some]
      generalize next L 7 a = c
      obtain ⟨c, b⟩ := c
      dsimp only
      cases e0 : c == 0 <;> cases e1 : c == 1 <;> cases e2 : c == 2 <;> cases e3 : c == 3 <;> cases e4 : c == 4 <;> cases e5 : c == 5 <;> cases e6 : c == 6 <;> first | rfl | (exfalso; simp only [beq_iff_eq] at *; omega)
  | succ d ih =>
    intro m a hd hm
    cases m with
    | zero => omega
    | succ m =>
      show make_Type_eb1_b (fun depth o0 => make_Type_eb1_m m depth o0) ((d + 1 : Nat) : Int) (Dk L a) = _
      unfold make_Type_eb1_b make_Type_eb1_k1
      rw [bnd_eq (nextEq hL (by omega) a)]
      have ew : w64 (((d + 1 : Nat) : Int) - 1) = (d : Int) := by rw [w64_id (by omega) (by omega)]; omega
      have ed : decide (((d + 1 : Nat) : Int) > 0) = true := decide_eq_true (by omega)
      have i1 := ih m (next L 7 a).2 (by omega) (by omega)
      have i2 := ih m (mkType L d (next L 7 a).2).2 (by omega) (by omega)
      have s1 := mkType_szd L d (by omega) (next L 7 a).2
      have s2 := mkType_szd L d (by omega) (mkType L d (next L 7 a).2).2
      simp only [mkType, ref01_Nat, ref01_List, ref01_Unit, ref01_Two, ref01_Fun, bnd_some, ew, ed, cond_true, i1, i2, copyTy _ s1, copyTy _ s2]
      generalize next L 7 a = c
      obtain ⟨c, b⟩ := c
      dsimp only
      cases e0 : c == 0 <;> cases e1 : c == 1 <;> cases e2 : c == 2 <;> cases e3 : c == 3 <;> cases e4 : c == 4 <;> cases e5 : c == 5 <;> cases e6 : c == 6 <;> first | rfl | (exfalso; simp only [beq_iff_eq] at *; omega)
theorem typeEq {L : List Int} (hL : L.length ≤ 500) (d : Nat) (hd : d ≤ 5) (a : Nat) : make_Type_eb1 d (Dk L a) = some ((mkType L d a).1, ((mkType L d a).2 : Int)) := typeEq_m hL d FU a hd (by unfold FU; omega)
theorem ctx_loop {L : List Int} (hL : L.length ≤ 500) (n0 a0 : Nat) : ∀ (c j m : Nat), c + j ≤ 1000 → c < m →
    loopN (fun k3 (x4 : List Typ × Int × Int) => cond (decide (x4.2.1 > 0)) (bnd (make_Type_eb1 1 (S_make_Deck.mk L x4.2.2)) fun r27 => gd (x4.1.length + 1) (k3 ((x4.1 ++ [r27.1]), (w64 (x4.2.1 - 1)), r27.2))) (some (x4.1, x4.2.2))) m ((mkTypes L j a0).1, ((c : Nat) : Int), ((mkTypes L j a0).2 : Int)) =
      some ((mkTypes L (j + c) a0).1, ((mkTypes L (j + c) a0).2 : Int)) := by
  intro c
  induction c with
  | zero =>
    intro j m hb hm
    cases m with
    | zero => omega
    | succ m => rfl
  | succ c ih =>
    intro j m hb hm
    cases m with
    | zero => omega
    | succ m =>
      show cond (decide (((c + 1 : Nat) : Int) > 0)) _ _ = _
      rw [show decide (((c + 1 : Nat) : Int) > 0) = true from decide_eq_true (by omega), cond_true]
      show bnd (make_Type_eb1 (1 : Nat) (Dk L (mkTypes L j a0).2)) _ = _
      rw [bnd_eq (typeEq hL 1 (by omega) _)]
      show gd ((mkTypes L j a0).1.length + 1) _ = _
      rw [gd_ok (by rw [mkTypes_len]; omega)]
      show loopN _ m ((mkTypes L (j + 1) a0).1, w64 (((c + 1 : Nat) : Int) - 1), ((mkTypes L (j + 1) a0).2 : Int)) = _
      rw [show w64 (((c + 1 : Nat) : Int) - 1) = ((c : Nat) : Int) by rw [w64_id (by omega) (by omega)]; omega, ih (j + 1) m (by omega) (by omega)]
      rw [show j + 1 + c = j + (c + 1) by omega]
theorem ctxEq {L : List Int} (hL : L.length ≤ 500) (a : Nat) : make_Context_6f7 (Dk L a) = some ((mkCtx L a).1, ((mkCtx L a).2 : Int)) := by
  unfold make_Context_6f7
  rw [bnd_eq (nextEq hL (by omega) a)]
  have hr := next_range L a (n := 4) (by omega) (by omega)
  have := ctx_loop hL 0 (next L 4 a).2 (next L 4 a).1.toNat 0 FU (by omega) (by unfold FU; omega)
  rw [Nat.zero_add] at this
  rw [show (((next L 4 a).1.toNat : Nat) : Int) = (next L 4 a).1 by omega] at this
  exact this
theorem getD_rev (g : List Typ) (i : Nat) (h : i < g.length) : g[g.length - 1 - i]? = some (g.getD (g.length - 1 - i) .zero) := by
  have : g.length - 1 - i < g.length := by omega
  simp [List.getElem?_eq_getElem this]
theorem rev_idx {R : Type} {g : List Typ} (hg : g.length ≤ 1000000) {i : Nat} (h : i < g.length) {k : Typ → Option R} : idx g (w64 ((w64 (((g.length : Nat) : Int) - 1)) - (i : Int))) k = k (g.getD (g.length - 1 - i) .zero) := by
  rw [w64_id (x := ((g.length : Nat) : Int) - 1) (by omega) (by omega), w64_id (by omega) (by omega)]
  rw [show ((g.length : Nat) : Int) - 1 - (i : Int) = ((g.length - 1 - i : Nat) : Int) by omega]
  exact idx_nat (getD_rev g i h)
theorem vars_loop {g : List Typ} {t : Typ} (hg : g.length ≤ 1000000) (hs : ∀ u ∈ g, u.sz ≤ 1000000) : ∀ (l : List Typ) (i : Nat) (x : List Int), i + l.length = g.length → x.length ≤ i →
    loopL (fun x5 => some x5) (fun k2 i3 (a1 : Typ) (x5 : List Int) => idx g (w64 ((w64 (((g.length : Nat) : Int) - 1)) - (i3 : Int))) fun a30 => bnd (ref01_Same a30 t) fun r33 => cond r33 (gd (x5.length + 1) (k2 (x5 ++ [(i3 : Int)]))) (k2 x5)) i l x =
      some (x ++ ((List.range' i l.length).filter (varB g t)).map Int.ofNat)
  | [], i, x, _, _ => by simp [loopL_nil]
  | a :: l, i, x, hi, hx => by
    simp only [List.length_cons] at hi
    have hsz : (g.getD (g.length - 1 - i) .zero).sz ≤ 1000000 := hs _ (by
      have := getD_rev g i (by omega)
      exact List.mem_of_getElem? this)
    rw [loopL_cons, rev_idx hg (by omega), bnd_eq (sameTyEq _ t hsz)]
    simp only [List.length_cons, List.range'_succ, List.filter_cons]
    have hv : varB g t i = (g.getD (g.length - 1 - i) .zero).same t := rfl
    rw [hv]
    cases (g.getD (g.length - 1 - i) .zero).same t with
    | true =>
      rw [cond_true, gd_ok (by omega), vars_loop hg hs l (i + 1) _ (by omega) (by simp; omega)]
      simp
    | false =>
      rw [cond_false, vars_loop hg hs l (i + 1) _ (by omega) (by omega)]
      simp
theorem varsEq (g : List Typ) (t : Typ) (hg : g.length ≤ 1000000) (hs : ∀ u ∈ g, u.sz ≤ 1000000) : make_vars g t = some (mkVars g t) := by
  unfold make_vars mkVars
  rw [vars_loop hg hs g 0 [] (by omega) (by simp), List.range_eq_range']
  rfl
theorem longerEq (g l : List Typ) (h : g.length + l.length ≤ 2000000000) : make_longer g l = some (g ++ l) := by
  unfold make_longer; rw [gd_ok (by omega), gd_ok h]
theorem numeral_loop : ∀ (n m j : Nat), n < m → n ≤ 5000 →
    loopN (fun k3 (x4 : Int × Trm) => cond (decide (x4.1 > 0)) (k3 ((w64 (x4.1 - 1)), (Trm.mk 5 0 (Typ.mk 0 ([] : List Typ)) [x4.2]))) (some x4.2)) m ((n : Int), num j) = some (num (j + n))
  | 0, m, j, h, _ => by
    cases m with
    | zero => omega
    | succ m => rfl
  | n + 1, m, j, h, hb => by
    cases m with
    | zero => omega
    | succ m =>
      show cond (decide (((n + 1 : Nat) : Int) > 0)) _ _ = _
      rw [decide_eq_true (by omega), cond_true]
      show loopN _ m (w64 (((n + 1 : Nat) : Int) - 1), num (j + 1)) = _
      rw [show w64 (((n + 1 : Nat) : Int) - 1) = (n : Int) by rw [w64_id (by omega) (by omega)]; omega, numeral_loop n m (j + 1) (by omega) (by omega)]
      rw [show j + 1 + n = j + (n + 1) by omega]
theorem numEq {n : Int} (h0 : 0 ≤ n) (h1 : n < 4096) : make_Num n = some (num n.toNat) := by
  unfold make_Num ref05_Number
  rw [decide_eq_false (by omega), cond_false, decide_eq_false (by omega), cond_false]
  have : ref05_numeral n = some (num n.toNat) := by
    unfold ref05_numeral
    rw [bnd_eq (nodeN 4 [] (by simp [bigTms]))]
    have := numeral_loop n.toNat FU 0 (by unfold FU; omega) (by omega)
    rw [Nat.zero_add, show ((n.toNat : Nat) : Int) = n by omega] at this
    exact this
  rw [bnd_eq this]; rfl
theorem plusEq : ref05_Plus () = some plusT := by kernel_rfl
theorem subEq : ref05_Sub () = some subT := by kernel_rfl
theorem appEq2 (f a b : Trm) (h : f.big + a.big + b.big ≤ 900000) : make_App f [a, b] = some (appT f [a, b]) := by
  unfold make_App
  simp only [loopL_cons, loopL_nil]
  rw [bnd_eq (nodeN 3 [f, a] (by simp [bigTms]; omega)), bnd_eq (nodeN 3 [tm 3 [f, a], b] (by simp [bigTms, tm, Trm.big, Typ.zero, Typ.sz, szTys]; omega))]
  rfl
end Go.AM

/-
  What the printed functions of the trees reckon: types.
-/
import Derived.Test.YtgilcibfknafiaaGreatDoorQG0F
import Derived.Test.YtgilcibfknafiaaGreatDoorAnL
import Derived.Test.YtgilcibfknafiaaGreatDoorAmU
set_option linter.unusedVariables false
set_option linter.unusedSimpArgs false
namespace Go.AM
open Go
theorem szTys_sum : ∀ l : List Typ, szTys l = (l.map Typ.sz).sum
  | [] => rfl
  | a :: l => by simp [szTys, szTys_sum l]
theorem szTms_sum : ∀ l : List Trm, szTms l = (l.map Trm.sz).sum
  | [] => rfl
  | a :: l => by simp [szTms, szTms_sum l]
theorem shapeTys_all : ∀ l : List Typ, shapeTys l = l.all Typ.shape
  | [] => rfl
  | a :: l => by simp [shapeTys, shapeTys_all l]
theorem shapeTms_all : ∀ l : List Trm, shapeTms l = l.all Trm.shape
  | [] => rfl
  | a :: l => by simp [shapeTms, shapeTms_all l]
theorem Typ.sz_mk (k : Int) (l : List Typ) : (Typ.mk k l).sz = 1 + szTys l := by simp [Typ.sz]
theorem Trm.sz_mk (k i : Int) (t : Typ) (l : List Trm) : (Trm.mk k i t l).sz = 1 + szTms l := by simp [Trm.sz]
theorem Trm.big_mk (k i : Int) (t : Typ) (l : List Trm) : (Trm.mk k i t l).big = 1 + t.sz + bigTms l := by simp [Trm.big]; try omega
theorem fuel {P : Nat → Prop} (h : ∀ m, 1000000 ≤ m → P m) : P FU := h FU (by unfold FU; omega)
theorem copyTy_m (t : Typ) : ∀ m, t.sz ≤ m → t.sz ≤ 1000000 → ref01_Copy_m m t = some t := by
  induction t using Typ.ind with
  | _ k l ih =>
    intro m hm hs
    rw [Typ.sz_mk] at hm hs
    cases m with
    | zero => omega
    | succ m =>
      have hl := szTys_len l
      show ref01_Copy_b (fun t => ref01_Copy_m m t) (.mk k l) = _
      refine (loopL_push (f := fun a => a) (fun a ha => ih a ha m (by have := szTys_mem ha; omega) (by have := szTys_mem ha; omega)) (by show 0 + l.length ≤ _; omega)).trans ?_
      simp
theorem copyTy (t : Typ) (h : t.sz ≤ 1000000) : ref01_Copy t = some t := copyTy_m t FU (by unfold FU; omega) h
theorem ownTy_m (t : Typ) : ∀ m, t.sz ≤ m → t.sz ≤ 1000000 → tree_OwnType_m m t = some t := by
  induction t using Typ.ind with
  | _ k l ih =>
    intro m hm hs
    rw [Typ.sz_mk] at hm hs
    cases m with
    | zero => omega
    | succ m =>
      have hl := szTys_len l
      show tree_OwnType_b (fun t => tree_OwnType_m m t) (.mk k l) = _
      refine (loopL_push (f := fun a => a) (fun a ha => ih a ha m (by have := szTys_mem ha; omega) (by have := szTys_mem ha; omega)) (by show 0 + l.length ≤ _; omega)).trans ?_
      simp
theorem ownTy (t : Typ) (h : t.sz ≤ 1000000) : tree_OwnType t = some t := ownTy_m t FU (by unfold FU; omega) h
theorem copyTm_m (t : Trm) : ∀ m, t.sz ≤ m → t.big ≤ 1000000 → ref02_Copy_m m t = some t := by
  induction t using Trm.ind with
  | _ k i ty l ih =>
    intro m hm hs
    rw [Trm.sz_mk] at hm
    rw [Trm.big_mk] at hs
    cases m with
    | zero => omega
    | succ m =>
      have hl := bigTms_len l
      show ref02_Copy_b (fun t => ref02_Copy_m m t) (.mk k i ty l) = _
      refine (loopL_push (f := fun a => a) (fun a ha => ih a ha m (by have := szTms_mem ha; omega) (by have := bigTms_mem ha; omega)) (by show 0 + l.length ≤ _; omega)).trans ?_
      show bnd (ref01_Copy ty) _ = _
      rw [bnd_eq (copyTy ty (by omega))]
      simp
theorem copyTm (t : Trm) (h : t.big ≤ 1000000) : ref02_Copy t = some t := copyTm_m t FU (by have := t.sz_le_big; unfold FU; omega) h
theorem nodeN (k : Int) (l : List Trm) (h : bigTms l ≤ 1000000) : ref02_N k l = some (tm k l) := by
  have hl := bigTms_len l
  unfold ref02_N
  refine (loopL_push (f := fun a => a) (fun a ha => copyTm a (by have := bigTms_mem ha; omega)) (by show 0 + l.length ≤ _; omega)).trans ?_
  simp; rfl
theorem nodeT (k : Int) (s : Typ) (l : List Trm) (h : bigTms l ≤ 1000000) (hs : s.sz ≤ 1000000) : ref02_T k s l = some (.mk k 0 s l) := by
  unfold ref02_T
  rw [bnd_eq (nodeN k l h), bnd_eq (copyTy s hs)]
  rfl
/-! ### What is right -/
theorem typeNodes_m (t : Typ) : ∀ m, t.sz ≤ m → t.sz ≤ 1000000 → tree_typeNodes_m m t = some (if t.shape then ((t.sz : Nat) : Int) else 0, t.shape) := by
  induction t using Typ.ind with
  | _ k l ih =>
    intro m hm hs
    rw [Typ.sz_mk] at hm hs
    cases m with
    | zero => omega
    | succ m =>
      have hk3 : ∀ n : Nat, tree_typeNodes_k3 (fun t => tree_typeNodes_m m t) (.mk k l) n = some (if (n == l.length && shapeTys l) then ((1 + szTys l : Nat) : Int) else 0, n == l.length && shapeTys l) := fun n => by
        unfold tree_typeNodes_k3
        show cond (((l.length : Nat) : Int) != (n : Int)) _ _ = _
        rw [nat_bne]
        by_cases hn : l.length = n
        · subst hn
          rw [bne_self_eq_false, cond_false, beq_self_eq_true, Bool.true_and]
          have := loopL_sum (R := Int × Bool) (fin := fun x17 => some (x17, true)) (bad := some (0, false)) (self := fun t => tree_typeNodes_m m t) (sz := Typ.sz) (ok := Typ.shape) (l := l) (i := 0) (x := 1)
            (fun a ha => ih a ha m (by have := szTys_mem ha; omega) (by have := szTys_mem ha; omega)) (by rw [← szTys_sum]; omega)
          refine this.trans ?_
          rw [← szTys_sum, ← shapeTys_all]
          cases shapeTys l <;> rfl
        · have e1 : (l.length != n) = true := by simpa using hn
          have e2 : (n == l.length) = false := by simpa using fun h => hn h.symm
          rw [e1, e2]; rfl
      show tree_typeNodes_b (fun t => tree_typeNodes_m m t) (.mk k l) = _
      simp only [Typ.shape, Typ.sz_mk, wantTy]
      unfold tree_typeNodes_b tree_typeNodes_k1 tree_typeNodes_k2
      show cond (k == 1) _ (cond (k == 2) _ _) = _
      have h0 := hk3 0
      have h2 := hk3 2
      cases e1 : k == 1 with
      | true => simpa using h0
      | false =>
        cases e2 : k == 2 with
        | true => simpa using h0
        | false =>
          cases e5 : k == 5 with
          | true => simp only [cond_false, Typ.kind, e5, cond_true]; simpa using h0
          | false =>
            cases e3 : k == 3 with
            | true => simp only [cond_false, Typ.kind, e5, e3, cond_true]; simpa using h2
            | false =>
              cases e4 : k == 4 with
              | true => simp only [cond_false, Typ.kind, e5, e3, e4, cond_true]; simpa using h2
              | false => simp [Typ.kind, e5, e3, e4]
theorem checkType (t : Typ) (h : t.sz ≤ 1000000) : tree_CheckType t = some (if t.err = 0 then ((t.sz : Nat) : Int) else 0, t.err) := by
  unfold tree_CheckType
  rw [bnd_eq (show tree_typeNodes t = _ from typeNodes_m t FU (by unfold FU; omega) h)]
  unfold Typ.err
  cases t.shape with
  | false => rfl
  | true =>
    simp only [if_true, Bool.not_true, cond_false]
    by_cases hc : 64 < t.sz
    · have : decide (((t.sz : Nat) : Int) > 64) = true := decide_eq_true (by omega)
      rw [this, if_pos hc]; rfl
    · have : decide (((t.sz : Nat) : Int) > 64) = false := decide_eq_false (by omega)
      rw [this, if_neg hc]; rfl
theorem arity_eq (k : Int) : tree_Arity k = some (match arity k with | some n => ((n : Int), true) | none => (0, false)) := by
  unfold tree_Arity
  by_cases h1 : k < 1
  · rw [arity_none (.inl h1)]; simp [h1]
  · by_cases h2 : 14 ≤ k
    · rw [arity_none (.inr h2)]; simp [h1, h2]
    · have : k = 1 ∨ k = 2 ∨ k = 3 ∨ k = 4 ∨ k = 5 ∨ k = 6 ∨ k = 7 ∨ k = 8 ∨ k = 9 ∨ k = 10 ∨ k = 11 ∨ k = 12 ∨ k = 13 := by omega
      rcases this with rfl | rfl | rfl | rfl | rfl | rfl | rfl | rfl | rfl | rfl | rfl | rfl | rfl <;> rfl
theorem typed_eq (k : Int) : tree_Typed k = some (typed k) := by
  unfold tree_Typed typed
  cases h1 : k == 2 <;> cases h2 : k == 6 <;> simp
theorem noType_eq (t : Typ) : tree_NoType t = some t.none := by
  unfold tree_NoType Typ.none
  rw [nat_beq0]
  cases t.kind == 0 <;> rfl
theorem termNodes_m (t : Trm) : ∀ m, t.sz ≤ m → t.big ≤ 1000000 → tree_termNodes_m m t = some (if t.shape then ((t.sz : Nat) : Int) else 0, t.shape) := by
  induction t using Trm.ind with
  | _ k i ty l ih =>
    intro m hm hs
    rw [Trm.sz_mk] at hm
    rw [Trm.big_mk] at hs
    cases m with
    | zero => omega
    | succ m =>
      have hbz := szTms_le_big l (fun a _ => a.sz_le_big)
      have hk2 : tree_termNodes_k2 (fun t => tree_termNodes_m m t) (.mk k i ty l) () = some (if shapeTms l then ((1 + szTms l : Nat) : Int) else 0, shapeTms l) := by
        unfold tree_termNodes_k2
        have := loopL_sum (R := Int × Bool) (fin := fun x17 => some (x17, true)) (bad := some (0, false)) (self := fun t => tree_termNodes_m m t) (sz := Trm.sz) (ok := Trm.shape) (l := l) (i := 0) (x := 1)
          (fun a ha => ih a ha m (by have := szTms_mem ha; omega) (by have := bigTms_mem ha; omega)) (by rw [← szTms_sum]; omega)
        refine this.trans ?_
        rw [← szTms_sum, ← shapeTms_all]
        cases shapeTms l <;> rfl
      have hk1 : tree_termNodes_k1 (fun t => tree_termNodes_m m t) (.mk k i ty l) () = some (if (if typed k then ty.okB else ty.none) && shapeTms l then ((1 + szTms l : Nat) : Int) else 0, (if typed k then ty.okB else ty.none) && shapeTms l) := by
        unfold tree_termNodes_k1
        show bnd (tree_Typed k) _ = _
        rw [bnd_eq (typed_eq k)]
        cases typed k with
        | true =>
          rw [cond_true]
          show bnd (tree_CheckType ty) _ = _
          rw [bnd_eq (checkType ty (by omega))]
          simp only [if_true]
          have := Typ.err_ok ty
          cases he : ty.okB with
          | true =>
            rw [he, beq_iff_eq] at this
            rw [this]
            simpa using hk2
          | false =>
            rw [he] at this
            have hne : (ty.err != 0) = true := by rw [bne, this]; rfl
            rw [hne]; rfl
        | false =>
          rw [cond_false]
          show bnd (tree_NoType ty) _ = _
          rw [bnd_eq (noType_eq ty)]
          cases ty.none with
          | true => simpa using hk2
          | false => rfl
      show tree_termNodes_b (fun t => tree_termNodes_m m t) (.mk k i ty l) = _
      unfold tree_termNodes_b
      show bnd (tree_Arity k) _ = _
      rw [bnd_eq (arity_eq k)]
      have hiff := Trm.shape_iff (k := k) (i := i) (t := ty) (l := l)
      have key : (Trm.mk k i ty l).shape = (decide (arity k = some l.length) && (decide (0 ≤ i) && ((decide (i = 0) || decide (k = 1)) && ((if typed k then ty.okB else ty.none) && shapeTms l)))) := by
        rw [Bool.eq_iff_iff, hiff]
        simp only [Bool.and_eq_true, Bool.or_eq_true, decide_eq_true_eq, shapeTms_iff]
      rw [key, Trm.sz_mk]
      cases ha : arity k with
      | none => simp
      | some n =>
        simp only [Bool.not_true, cond_false]
        show cond (((l.length : Nat) : Int) != (n : Int)) _ _ = _
        rw [nat_bne]
        by_cases hn : l.length = n
        · subst hn
          rw [bne_self_eq_false, cond_false]
          show cond (decide (i < 0)) _ (cond (i != 0) (cond (k != 1) _ _) _) = _
          by_cases hi : i < 0
          · have : ¬ (0 ≤ i) := by omega
            simp [hi, this]
          · have h0 : 0 ≤ i := by omega
            have e0 : decide (i < 0) = false := by simpa using hi
            rw [e0, cond_false]
            by_cases hz : i = 0
            · subst hz
              rw [bne_self_eq_false, cond_false, hk1]; simp
            · have ez : (i != 0) = true := by simpa using hz
              rw [ez, cond_true]
              by_cases h1 : k = 1
              · subst h1
                rw [bne_self_eq_false, cond_false, hk1]; simp [h0]
              · have e1 : (k != 1) = true := by simpa using h1
                rw [e1, cond_true]; simp [hz, h1]
        · have e1 : (l.length != n) = true := by simpa using hn
          rw [e1, cond_true]
          have : ¬ (some n = some l.length) := fun h => hn (by injection h with h; exact h.symm)
          simp [this]
theorem checkTerm (t : Trm) (h : t.big ≤ 1000000) : tree_CheckTerm t = some (if t.err = 0 then ((t.sz : Nat) : Int) else 0, t.err) := by
  unfold tree_CheckTerm
  rw [bnd_eq (show tree_termNodes t = _ from termNodes_m t FU (by have := t.sz_le_big; unfold FU; omega) h)]
  unfold Trm.err
  cases t.shape with
  | false => rfl
  | true =>
    simp only [if_true, Bool.not_true, cond_false]
    by_cases hc : 4096 < t.sz
    · have : decide (((t.sz : Nat) : Int) > 4096) = true := decide_eq_true (by omega)
      rw [this, if_pos hc]; rfl
    · have : decide (((t.sz : Nat) : Int) > 4096) = false := decide_eq_false (by omega)
      rw [this, if_neg hc]; rfl
theorem sizeTm (t : Trm) (h : t.big ≤ 1000000) : terms_Size t = some (if t.err = 0 then ((t.sz : Nat) : Int) else 0, t.err) := by
  unfold terms_Size; rw [bnd_eq (checkTerm t h)]
/-! ### Walks over the variables -/
theorem each_mk {S : Type} (f : S → Int → Int → S) (k i : Int) (ty : Typ) (l : List Trm) (b : Int) (s : S) : (Trm.mk k i ty l).each f b s = l.foldl (fun s a => a.each f (if k == 2 then w64 (b + 1) else b) s) (if k == 1 then f s i b else s) := by
  have : ∀ (l : List Trm) (b : Int) (s : S), eachs f l b s = l.foldl (fun s a => a.each f b s) s := by
    intro l
    induction l with
    | nil => intro b s; rfl
    | cons a l ih => intro b s; simp only [eachs, List.foldl_cons, ih]
  simp only [Trm.each, this]
theorem nearEach_m (t : Trm) : ∀ (m : Nat) (b : Int) (s : Bool), t.sz ≤ m → tree_Each_1_d04_m m t b s = some (t.each (fun s i _ => s && decide (i ≤ 536870912)) b s) := by
  induction t using Trm.ind with
  | _ k i ty l ih =>
    intro m b s hm
    rw [Trm.sz_mk] at hm
    cases m with
    | zero => omega
    | succ m =>
      have hk2 : ∀ (b : Int) (s : Bool), tree_Each_1_d04_k2 (fun t b s => tree_Each_1_d04_m m t b s) (.mk k i ty l) s b = some (l.foldl (fun s a => a.each (fun s i _ => s && decide (i ≤ 536870912)) b s) s) := fun b s => by
        unfold tree_Each_1_d04_k2
        exact loopL_fold (self := fun a x => tree_Each_1_d04_m m a b x) (fun a ha x => ih a ha m b x (by have : a.sz ≤ szTms l := szTms_mem ha; omega))
      rw [each_mk]
      show tree_Each_1_d04_b (fun t b s => tree_Each_1_d04_m m t b s) (.mk k i ty l) b s = _
      unfold tree_Each_1_d04_b tree_Each_1_d04_k1 tree_Near_1_604
      show cond (k == 1) (bnd (cond s (some (decide (i ≤ 536870912))) (some false)) fun r2 => cond (k == 2) _ _) (cond (k == 2) _ _) = _
      have e1 : (cond s (some (decide (i ≤ 536870912))) (some false)) = some (s && decide (i ≤ 536870912)) := by cases s <;> rfl
      rw [e1]
      cases k == 1 <;> cases k == 2 <;> simp only [cond_true, cond_false, bnd_some, hk2] <;> rfl
theorem nearEq (t : Trm) (h : t.sz ≤ 1000000) : tree_Near t = some t.near := by
  unfold tree_Near tree_Each_322
  rw [bnd_id, bnd_id]
  exact nearEach_m t FU 0 true (by unfold FU; omega)
theorem countEach_m (v : Int) (t : Trm) : ∀ (m : Nat) (b : Int) (s : Int), t.sz ≤ m → tree_Each_1_436_m m t b v s = some (t.each (fun s i b => if w64 (i - b) == v then w64 (s + 1) else s) b s) := by
  induction t using Trm.ind with
  | _ k i ty l ih =>
    intro m b s hm
    rw [Trm.sz_mk] at hm
    cases m with
    | zero => omega
    | succ m =>
      have hk2 : ∀ (b : Int) (s : Int), tree_Each_1_436_k2 (fun t b v s => tree_Each_1_436_m m t b v s) (.mk k i ty l) v s b = some (l.foldl (fun s a => a.each (fun s i b => if w64 (i - b) == v then w64 (s + 1) else s) b s) s) := fun b s => by
        unfold tree_Each_1_436_k2
        exact loopL_fold (self := fun a x => tree_Each_1_436_m m a b v x) (fun a ha x => ih a ha m b x (by have : a.sz ≤ szTms l := szTms_mem ha; omega))
      rw [each_mk]
      show tree_Each_1_436_b (fun t b v s => tree_Each_1_436_m m t b v s) (.mk k i ty l) b v s = _
      unfold tree_Each_1_436_b tree_Each_1_436_k1 tree_Count_1_9d7
      show cond (k == 1) (bnd (cond (w64 (i - b) == v) _ _) fun r2 => cond (k == 2) _ _) (cond (k == 2) _ _) = _
      cases k == 1 <;> cases k == 2 <;> cases w64 (i - b) == v <;> simp only [cond_true, cond_false, bnd_some, hk2] <;> rfl
theorem countEq (t : Trm) (v : Int) (h : t.sz ≤ 1000000) : tree_Count t v = some (t.count v) := by
  unfold tree_Count tree_Each_746
  rw [bnd_id, bnd_id]
  exact countEach_m v t FU 0 0 (by unfold FU; omega)
theorem rebuild_node (f : Int → Int → Trm) (k i : Int) (ty : Typ) (l : List Trm) (b : Int) (h : (k == 1) = false) : (Trm.mk k i ty l).rebuild f b = .mk k i ty (l.map (·.rebuild f (if k == 2 then w64 (b + 1) else b))) := by
  simp only [Trm.rebuild, h, rebuilds_map]; rfl
theorem liftOne (i b at_ by_ : Int) : tree_Lift_1_9d7 i b at_ by_ = some (liftAt at_ by_ i b) := by
  unfold tree_Lift_1_9d7 tree_Lift_1_9d7_k1 liftAt
  cases decide (w64 (i - b) ≥ at_) <;> rfl
theorem liftReb_m (at_ by_ : Int) (t : Trm) : ∀ (m : Nat) (b : Int), t.sz ≤ m → t.big ≤ 1000000 → tree_Rebuild_1_253_m m t b at_ by_ = some (t.rebuild (liftAt at_ by_) b) := by
  induction t using Trm.ind with
  | _ k i ty l ih =>
    intro m b hm hs
    rw [Trm.sz_mk] at hm
    rw [Trm.big_mk] at hs
    cases m with
    | zero => omega
    | succ m =>
      have hl := bigTms_len l
      have hk1 : ∀ b : Int, tree_Rebuild_1_253_k1 (fun t b o2 o3 => tree_Rebuild_1_253_m m t b o2 o3) (.mk k i ty l) at_ by_ ty b = some (.mk k i ty (l.map (·.rebuild (liftAt at_ by_) b))) := fun b => by
        unfold tree_Rebuild_1_253_k1
        refine (loopL_push (self := fun a => tree_Rebuild_1_253_m m a b at_ by_) (f := fun a => a.rebuild (liftAt at_ by_) b) (fun a ha => ih a ha m b (by have := szTms_mem ha; omega) (by have := bigTms_mem ha; omega)) (by show 0 + l.length ≤ _; omega)).trans ?_
        simp
      show tree_Rebuild_1_253_b (fun t b o2 o3 => tree_Rebuild_1_253_m m t b o2 o3) (.mk k i ty l) b at_ by_ = _
      unfold tree_Rebuild_1_253_b
      show cond (k == 1) (bnd (tree_Lift_1_9d7 i b at_ by_) _) (bnd (tree_OwnType ty) fun r4 => cond (k == 2) _ _) = _
      rw [liftOne, bnd_some, bnd_eq (ownTy ty (by omega))]
      cases h1 : k == 1 with
      | true => simp only [cond_true, Trm.rebuild, h1]; rfl
      | false =>
        rw [rebuild_node _ _ _ _ _ _ h1]
        cases h2 : k == 2 <;> simp only [cond_true, cond_false, hk1] <;> rfl
theorem liftEq (t : Trm) (at_ by_ : Int) (h : t.big ≤ 1000000) : tree_Lift t at_ by_ = some (t.lift at_ by_) := by
  unfold tree_Lift tree_Rebuild_591
  rw [bnd_id, bnd_id]
  exact liftReb_m at_ by_ t FU 0 (by have := t.sz_le_big; unfold FU; omega) h
theorem putOne (i b at_ : Int) (s : Trm) (hs : s.big ≤ 1000000) : tree_Put_1_fa2 i b at_ s = some (putAt at_ s i b) := by
  unfold tree_Put_1_fa2 putAt
  rw [liftEq s _ _ hs]
  cases w64 (i - b) == at_ <;> cases decide (w64 (i - b) > at_) <;> rfl
theorem putReb_m (at_ : Int) (s : Trm) (hsb : s.big ≤ 1000000) (t : Trm) : ∀ (m : Nat) (b : Int), t.sz ≤ m → t.big ≤ 1000000 → tree_Rebuild_1_a63_m m t b at_ s = some (t.rebuild (putAt at_ s) b) := by
  induction t using Trm.ind with
  | _ k i ty l ih =>
    intro m b hm hs
    rw [Trm.sz_mk] at hm
    rw [Trm.big_mk] at hs
    cases m with
    | zero => omega
    | succ m =>
      have hl := bigTms_len l
      have hk1 : ∀ b : Int, tree_Rebuild_1_a63_k1 (fun t b o2 o3 => tree_Rebuild_1_a63_m m t b o2 o3) (.mk k i ty l) at_ s ty b = some (.mk k i ty (l.map (·.rebuild (putAt at_ s) b))) := fun b => by
        unfold tree_Rebuild_1_a63_k1
        refine (loopL_push (self := fun a => tree_Rebuild_1_a63_m m a b at_ s) (f := fun a => a.rebuild (putAt at_ s) b) (fun a ha => ih a ha m b (by have := szTms_mem ha; omega) (by have := bigTms_mem ha; omega)) (by show 0 + l.length ≤ _; omega)).trans ?_
        simp
      show tree_Rebuild_1_a63_b (fun t b o2 o3 => tree_Rebuild_1_a63_m m t b o2 o3) (.mk k i ty l) b at_ s = _
      unfold tree_Rebuild_1_a63_b
      show cond (k == 1) (bnd (tree_Put_1_fa2 i b at_ s) _) (bnd (tree_OwnType ty) fun r4 => cond (k == 2) _ _) = _
      rw [putOne _ _ _ _ hsb, bnd_some, bnd_eq (ownTy ty (by omega))]
      cases h1 : k == 1 with
      | true => simp only [cond_true, Trm.rebuild, h1]; rfl
      | false =>
        rw [rebuild_node _ _ _ _ _ _ h1]
        cases h2 : k == 2 <;> simp only [cond_true, cond_false, hk1] <;> rfl
theorem putEq (t : Trm) (at_ : Int) (s : Trm) (h : t.big ≤ 1000000) (hs : s.big ≤ 1000000) : tree_Put t at_ s = some (t.put at_ s) := by
  unfold tree_Put tree_Rebuild_9ab
  rw [bnd_id, bnd_id]
  exact putReb_m at_ s hs t FU 0 (by have := t.sz_le_big; unfold FU; omega) h
end Go.AM

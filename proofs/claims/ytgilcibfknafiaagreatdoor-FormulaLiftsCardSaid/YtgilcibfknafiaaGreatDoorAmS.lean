/-
  What is made is typed, and small enough.
-/
import Derived.Test.YtgilcibfknafiaaGreatDoorAmR
set_option linter.unusedVariables false
set_option linter.unusedSimpArgs false
namespace Go.AM
open Go Go.RowKit

def sm (t : Typ) : Prop := t.shape = true ∧ t.sz ≤ 3
theorem sm_ok {t : Typ} (h : sm t) : t.okB = true := okB_iff.2 ⟨h.1, by have := h.2; omega⟩
theorem sm_nat : sm .nat := ⟨rfl, by decide⟩
theorem sm_list : sm .list := ⟨rfl, by decide⟩
theorem okF {a b : Typ} (h1 : a.shape = true) (h2 : b.shape = true) (h3 : a.sz + b.sz ≤ 63) : (Typ.func a b).okB = true :=
  okB_iff.2 ⟨by simp [Typ.func, Typ.shape, shapeTys, wantTy, h1, h2], by simp [Typ.func, Typ.sz, szTys]; omega⟩
theorem okP {a b : Typ} (h1 : a.shape = true) (h2 : b.shape = true) (h3 : a.sz + b.sz ≤ 63) : (Typ.two a b).okB = true :=
  okB_iff.2 ⟨by simp [Typ.two, Typ.shape, shapeTys, wantTy, h1, h2], by simp [Typ.two, Typ.sz, szTys]; omega⟩
theorem func_shape {a b : Typ} (h1 : a.shape = true) (h2 : b.shape = true) : (Typ.func a b).shape = true := by simp [Typ.func, Typ.shape, shapeTys, wantTy, h1, h2]
theorem func_sz (a b : Typ) : (Typ.func a b).sz = 1 + a.sz + b.sz := by simp [Typ.func, Typ.sz, szTys]; omega
theorem sm_args {t : Typ} (h : sm t) (hk : t.kind = 3 ∨ t.kind = 4) : ∃ x y, t = .mk t.kind [x, y] ∧ x.shape = true ∧ y.shape = true ∧ x.sz = 1 ∧ y.sz = 1 ∧ t.args.getD 0 .zero = x ∧ t.args.getD 1 .zero = y := by
  obtain ⟨x, y, e, ox, oy, hs, e0, e1⟩ := two_args (sm_ok h) hk
  have hx := x.sz_pos
  have hy := y.sz_pos
  have := h.2
  exact ⟨x, y, e, (okB_iff.1 ox).1, (okB_iff.1 oy).1, by omega, by omega, e0, e1⟩
theorem sext {g : List Typ} {x : Typ} (hg : ∀ u ∈ g, sm u) (hx : sm x) : ∀ u ∈ g ++ [x], sm u := fun u hu => by
  rcases List.mem_append.1 hu with h | h
  · exact hg u h
  · simp at h; subst h; exact hx
theorem mkVars_mem {g : List Typ} {t : Typ} {v : Int} (h : v ∈ mkVars g t) : ∃ i : Nat, v = i ∧ i < g.length ∧ tyAt g i = t := by
  unfold mkVars at h
  obtain ⟨i, hi, rfl⟩ := List.mem_map.1 h
  rw [List.mem_filter] at hi
  exact ⟨i, rfl, by simpa using hi.1, (same_eq _ _).1 hi.2⟩
theorem mkVars_get {g : List Typ} {t : Typ} {c : Int} (h0 : 0 ≤ c) (h1 : c < (mkVars g t).length) : ∃ i : Nat, (mkVars g t).getD c.toNat 0 = i ∧ i < g.length ∧ tyAt g i = t := by
  have hlt : c.toNat < (mkVars g t).length := by omega
  rw [getD_at _ _ hlt]
  exact mkVars_mem (List.getElem_mem hlt)
theorem mkVars_draw {L : List Int} {g : List Typ} {t : Typ} {a : Nat} (h : decide (((mkVars g t).length : Int) > 0) = true) (hl : g.length ≤ 1000000) : ∃ i : Nat, (mkVars g t).getD (next L (mkVars g t).length a).1.toNat 0 = i ∧ i < g.length ∧ tyAt g i = t := by
  have hle : (mkVars g t).length ≤ g.length := by
    unfold mkVars; rw [List.length_map]
    have := List.length_filter_le (varB g t) (List.range g.length)
    rwa [List.length_range] at this
  have hr := next_range L a (n := (mkVars g t).length) (by simp at h; omega) (by omega)
  exact mkVars_get hr.1 hr.2
theorem tyAt_0 (g : List Typ) (a : Typ) : tyAt (g ++ [a]) 0 = a := by rw [tyAt_right _ _ (by simp)]; rfl
theorem tyAt_1 (g : List Typ) (a b : Typ) : tyAt (g ++ [a] ++ [b]) 1 = a := by rw [tyAt_left _ _ (by simp) (by simp)]; exact tyAt_0 g a
theorem v0 {g : List Typ} {a : Typ} : HasT (g ++ [a]) (vr 0) a := HasT.varI (i := 0) (by simp) (tyAt_0 g a)
theorem v1 {g : List Typ} {a b : Typ} : HasT (g ++ [a] ++ [b]) (vr 1) a := HasT.varI (i := 1) (by simp) (tyAt_1 g a b)
theorem num_typed (g : List Typ) : ∀ n, HasT g (num n) .nat
  | 0 => .zero
  | n + 1 => .succ (num_typed g n)
theorem pred_typed (g : List Typ) : HasT g predT (.func .nat .nat) :=
  .lam (by decide) (by decide) (.recu (by decide) .zero (.lam (by decide) (by decide) (.lam (by decide) (by decide) v1)) v0)
theorem plus_typed (g : List Typ) : HasT g plusT (.func .nat (.func .nat .nat)) :=
  .lam (by decide) (by decide) (.lam (by decide) (by decide) (.recu (by decide) v1 (.lam (by decide) (by decide) (.lam (by decide) (by decide) (.succ v0))) v0))
theorem sub_typed (g : List Typ) : HasT g subT (.func .nat (.func .nat .nat)) :=
  .lam (by decide) (by decide) (.lam (by decide) (by decide) (.recu (by decide) v1 (.lam (by decide) (by decide) (.lam (by decide) (by decide) (.app (pred_typed _) v0))) v0))
theorem kind1 {t : Typ} (h : t.shape = true) (hk : t.kind = 1) : t = .nat := by
  obtain ⟨k, l⟩ := t
  simp only [Typ.kind_mk] at hk; subst hk
  simp only [Typ.shape, Bool.and_eq_true, beq_iff_eq] at h
  have : l = [] := by have h1 := h.1; simp [wantTy] at h1; exact List.eq_nil_of_length_eq_zero h1.symm
  subst this; rfl
theorem kind2 {t : Typ} (h : t.shape = true) (hk : t.kind = 2) : t = .list := by
  obtain ⟨k, l⟩ := t
  simp only [Typ.kind_mk] at hk; subst hk
  simp only [Typ.shape, Bool.and_eq_true, beq_iff_eq] at h
  have : l = [] := by have h1 := h.1; simp [wantTy] at h1; exact List.eq_nil_of_length_eq_zero h1.symm
  subst this; rfl
theorem kind5 {t : Typ} (h : t.shape = true) (h1 : t.kind ≠ 1) (h2 : t.kind ≠ 2) (h3 : t.kind ≠ 3) (h4 : t.kind ≠ 4) : t = .unit := by
  obtain ⟨k, l⟩ := t
  simp only [Typ.kind_mk] at *
  simp only [Typ.shape, Bool.and_eq_true, beq_iff_eq] at h
  by_cases hk : k = 5
  · subst hk
    have : l = [] := by have h1 := h.1; simp [wantTy] at h1; exact List.eq_nil_of_length_eq_zero h1.symm
    subst this; rfl
  · have h5 := h.1
    simp [wantTy, h1, h2, h3, h4, hk] at h5
theorem flat_typed {L : List Int} {rec : Mk} {deep : Bool} {g : List Typ} {t : Typ} (ht : sm t) (hg : ∀ u ∈ g, sm u) (hrec : ∀ g' t' a, g'.length ≤ g.length + 3 → sm t' → (∀ u ∈ g', sm u) → (deep = true ∨ t'.sz < t.sz) → HasT g' (rec g' t' a).1 t') (a : Nat) : HasT g (flatBody L rec deep g t a).1 t := by
  unfold flatBody
  split
  · rename_i hk
    have e := kind1 ht.1 (by simpa using hk)
    split
    · rename_i hd
      dsimp only
      split
      · dsimp only
        have := hrec g t (next L 5 a).2 (by omega) ht hg (.inl hd)
        rw [e] at this ⊢; exact .succ this
      · split
        · dsimp only
          have h1 := hrec g t (next L 5 a).2 (by omega) ht hg (.inl hd)
          have h2 := hrec g t (rec g t (next L 5 a).2).2 (by omega) ht hg (.inl hd)
          rw [e] at h1 h2 ⊢
          exact .app (.app (plus_typed g) h1) h2
        · split
          · dsimp only
            have h1 := hrec g t (next L 5 a).2 (by omega) ht hg (.inl hd)
            have h2 := hrec g t (rec g t (next L 5 a).2).2 (by omega) ht hg (.inl hd)
            rw [e] at h1 h2 ⊢
            exact .app (.app (sub_typed g) h1) h2
          · rw [e]; exact num_typed g _
    · rw [e]; exact num_typed g _
  · split
    · rename_i hk
      have e := kind2 ht.1 (by simpa using hk)
      split
      · rename_i hd
        dsimp only
        split
        · dsimp only
          have h1 := hrec g .nat (next L 2 a).2 (by omega) sm_nat hg (.inl hd)
          have h2 := hrec g t (rec g .nat (next L 2 a).2).2 (by omega) ht hg (.inl hd)
          rw [e] at h2 ⊢
          exact .cons h1 h2
        · rw [e]; exact .nil
      · rw [e]; exact .nil
    · split
      · rename_i hk
        obtain ⟨x, y, e, sx, sy, zx, zy, e0, e1⟩ := sm_args ht (.inl (by simpa using hk))
        have hts : t.sz = 3 := by rw [e]; simp [Typ.sz, szTys]; omega
        rw [e0, e1]
        dsimp only
        have h1 := hrec g x a (by omega) ⟨sx, by omega⟩ hg (.inr (by omega))
        have h2 := hrec g y (rec g x a).2 (by omega) ⟨sy, by omega⟩ hg (.inr (by omega))
        have : t = .two x y := by rw [e, show t.kind = 3 by simpa using hk]; rfl
        rw [this]
        exact .pair (okP sx sy (by omega)) h1 h2
      · split
        · rename_i hk
          obtain ⟨x, y, e, sx, sy, zx, zy, e0, e1⟩ := sm_args ht (.inr (by simpa using hk))
          have hts : t.sz = 3 := by rw [e]; simp [Typ.sz, szTys]; omega
          rw [e0, e1]
          dsimp only
          have h2 := hrec (g ++ [x]) y a (by simp) ⟨sy, by omega⟩ (sext hg ⟨sx, by omega⟩) (.inr (by omega))
          have : t = .func x y := by rw [e, show t.kind = 4 by simpa using hk]; rfl
          rw [this]
          exact .lam (okB_iff.2 ⟨sx, by omega⟩) (okF sx sy (by omega)) h2
        · rename_i h1 h2 h3 h4
          rw [kind5 ht.1 (by simpa using h1) (by simpa using h2) (by simpa using h3) (by simpa using h4)]
          exact .unit
theorem deep_typed {L : List Int} {rec : Mk} {g : List Typ} {t : Typ} (ht : sm t) (hg : ∀ u ∈ g, sm u) (hrec : ∀ g' t' a, g'.length ≤ g.length + 3 → sm t' → (∀ u ∈ g', sm u) → HasT g' (rec g' t' a).1 t') {c : Int} {a : Nat} {r : Trm × Nat} (hr : deepBody L rec g t c a = some r) : HasT g r.1 t := by
  have so : sm (mkType L 0 a).1 := ⟨mkType_shape L 0 a, by rw [mkType_sz0]; omega⟩
  have s0 := mkType_sz0 L a
  have h3 := ht.2
  have nsz : Typ.nat.sz = 1 := rfl
  have lsz : Typ.list.sz = 1 := rfl
  have hft : (Typ.func t t).shape = true := func_shape ht.1 ht.1
  have hfz := func_sz t t
  unfold deepBody at hr
  split at hr
  · injection hr with hr; subst hr
    exact .app (.lam (sm_ok so) (okF so.1 ht.1 (by omega)) (hrec _ _ _ (by simp) ht (sext hg so))) (hrec _ _ _ (by omega) so hg)
  split at hr
  · injection hr with hr; subst hr
    exact .fst (.pair (okP ht.1 so.1 (by omega)) (hrec _ _ _ (by omega) ht hg) (hrec _ _ _ (by omega) so hg))
  split at hr
  · injection hr with hr; subst hr
    refine .recu (sm_ok ht) (hrec _ _ _ (by omega) ht hg) (.lam (by decide) (okF rfl hft (by omega)) (.lam (sm_ok ht) (okF ht.1 ht.1 (by omega)) ?_)) (num_typed g _)
    have := hrec (g ++ [.nat, t]) t a (by simp) ht (by rw [show g ++ [Typ.nat, t] = g ++ [Typ.nat] ++ [t] by simp]; exact sext (sext hg sm_nat) ht)
    rwa [show g ++ [Typ.nat, t] = g ++ [Typ.nat] ++ [t] by simp] at this ⊢
  split at hr
  · injection hr with hr; subst hr
    have hlt : (Typ.func .list (.func t t)).shape = true := func_shape rfl hft
    have hlz := func_sz .list (.func t t)
    refine .fold (sm_ok ht) (hrec _ _ _ (by omega) ht hg) (.lam (by decide) (okF rfl hlt (by omega)) (.lam (by decide) (okF rfl hft (by omega)) (.lam (sm_ok ht) (okF ht.1 ht.1 (by omega)) ?_))) (hrec _ _ _ (by omega) sm_list hg)
    have := hrec (g ++ [.nat, .list, t]) t a (by simp) ht (by rw [show g ++ [Typ.nat, Typ.list, t] = g ++ [Typ.nat] ++ [Typ.list] ++ [t] by simp]; exact sext (sext (sext hg sm_nat) sm_list) ht)
    rwa [show g ++ [Typ.nat, Typ.list, t] = g ++ [Typ.nat] ++ [Typ.list] ++ [t] by simp] at this ⊢
  split at hr
  · injection hr with hr; subst hr
    exact .snd (.pair (okP so.1 ht.1 (by omega)) (hrec _ _ _ (by omega) so hg) (hrec _ _ _ (by omega) ht hg))
  split at hr
  · split at hr
    · rename_i i hi
      injection hr with hr; subst hr
      obtain ⟨h1, h2⟩ := mkFun_some hi
      have hlt : g.length - 1 - i < g.length := by omega
      have o : sm (tyAt g i) := by unfold tyAt; rw [getD_at _ _ hlt]; exact hg _ (List.getElem_mem hlt)
      simp only [funB, Bool.and_eq_true, beq_iff_eq] at h2
      obtain ⟨x, y, e, sx, sy, zx, zy, e0, e1⟩ := sm_args o (.inr h2.1)
      have hy : y = t := by rw [← e1]; exact (same_eq _ _).1 h2.2
      have hf : tyAt g i = .func x t := by rw [e, show (tyAt g i).kind = 4 from h2.1, hy]; rfl
      have e0' : (g.getD (g.length - 1 - i) Typ.zero).args.getD 0 Typ.zero = x := e0
      dsimp only
      rw [e0']
      exact .app (HasT.varI h1 hf) (hrec _ _ _ (by omega) ⟨sx, by omega⟩ hg)
    · cases hr
  · cases hr
theorem mkTerm_typed (L : List Int) : ∀ (n : Nat) (dep : Int) (g : List Typ) (t : Typ) (a : Nat), sm t → (∀ u ∈ g, sm u) → g.length + 3 * n ≤ 1000000 → fuelOk n dep t → HasT g (mkTerm L n dep g t a).1 t
  | 0, dep, g, t, a, ht, hg, hl, hf => by
    have := t.sz_pos
    rcases hf with ⟨h1, h2⟩ | ⟨h1, h2⟩ <;> omega
  | n + 1, dep, g, t, a, ht, hg, hl, hf => by
    have hrec : ∀ g' t' a, g'.length ≤ g.length + 3 → sm t' → (∀ u ∈ g', sm u) → (decide (dep > 0) = true ∨ t'.sz < t.sz) → HasT g' (mkTerm L n (dep - 1) g' t' a).1 t' := fun g' t' a' h0 h1 h2 h3 => by
      refine mkTerm_typed L n (dep - 1) g' t' a' h1 h2 (by omega) ?_
      have hs' := h1.2
      unfold fuelOk at hf ⊢
      by_cases hc : dep - 1 ≤ 0
      · refine .inl ⟨hc, ?_⟩
        rcases hf with ⟨f1, f2⟩ | ⟨f1, f2⟩
        · rcases h3 with h3 | h3
          · simp at h3; omega
          · omega
        · omega
      · refine .inr ⟨by omega, ?_⟩
        rcases hf with ⟨f1, f2⟩ | ⟨f1, f2⟩ <;> omega
    show HasT g (termBody L (mkTerm L n (dep - 1)) (decide (dep > 0)) g t a).1 t
    unfold termBody
    dsimp only
    split
    · rename_i hc
      rw [Bool.and_eq_true] at hc
      obtain ⟨i, e1, e2, e3⟩ := mkVars_draw (L := L) (a := (draw3 L g t a).2) hc.1 (by omega)
      rw [e1]
      exact HasT.varI e2 e3
    · cases hr : (if decide (dep > 0) = true then deepBody L (mkTerm L n (dep - 1)) g t (next L 8 (draw3 L g t a).2).1 (next L 8 (draw3 L g t a).2).2 else none) with
      | some r =>
        simp only [Option.getD_some]
        split at hr
        · rename_i hd
          exact deep_typed ht hg (fun g' t' a' h0 h1 h2 => hrec g' t' a' h0 h1 h2 (.inl hd)) hr
        · cases hr
      | none =>
        simp only [Option.getD_none]
        exact flat_typed ht hg hrec _
end Go.AM

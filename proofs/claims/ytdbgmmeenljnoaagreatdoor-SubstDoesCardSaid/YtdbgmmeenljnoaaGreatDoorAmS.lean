/-
  What is made is typed, and small enough.
  Sizes of what is made and of what is put in; the law SubstTypes in plain terms.
  From a row's premise to a contract's, and back.
-/
import Derived.Test.YtdbgmmeenljnoaaGreatDoorAmQ
import Derived.Test.YtdbgmmeenljnoaaGreatDoorAmJ
import Derived.ProofKit
import Derived.LaidLaws
import Derived.Handed
set_option linter.unusedVariables false
set_option linter.unusedSimpArgs false
namespace Go.AM
open Go Go.RowKit

def sm (t : Typ) : Prop := t.shape = true ∧ t.sz ≤ 3
theorem sm_ok {t : Typ} (h : sm t) : t.okB = true := okB_iff.2 ⟨h.1, by have := h.2; omega⟩
theorem sm_nat : sm .nat := ⟨rfl, by decide⟩
theorem sm_list : sm .list := ⟨rfl, by decide⟩
theorem okF {a b : Typ} (h1 : a.shape = true) (h2 : b.shape = true) (h3 : a.sz + b.sz ≤ 63) : (Typ.func a b).okB = true :=
  okB_iff.2 ⟨by simp [Typ.func, Typ.shape, shapeTys, wantTy, h1, h2], by simp [Typ.func, Typ.sz, szTys]; omega⟩
theorem okP {a b : Typ} (h1 : a.shape = true) (h2 : b.shape = true) (h3 : a.sz + b.sz ≤ 63) : (Typ.two a b).okB = true :=
  okB_iff.2 ⟨by simp [Typ.two, Typ.shape, shapeTys, wantTy, h1, h2], by simp [Typ.two, Typ.sz, szTys]; omega⟩
theorem func_shape {a b : Typ} (h1 : a.shape = true) (h2 : b.shape = true) : (Typ.func a b).shape = true := by simp [Typ.func, Typ.shape, shapeTys, wantTy, h1, h2]
theorem func_sz (a b : Typ) : (Typ.func a b).sz = 1 + a.sz + b.sz := by simp [Typ.func, Typ.sz, szTys]; omega
theorem sm_args {t : Typ} (h : sm t) (hk : t.kind = 3 ∨ t.kind = 4) : ∃ x y, t = .mk t.kind [x, y] ∧ x.shape = true ∧ y.shape = true ∧ x.sz = 1 ∧ y.sz = 1 ∧ t.args.getD 0 .zero = x ∧ t.args.getD 1 .zero = y := by
  obtain ⟨x, y, e, ox, oy, hs, e0, e1⟩ := two_args (sm_ok h) hk
  have hx := x.sz_pos
  have hy := y.sz_pos
  have := h.2
  exact ⟨x, y, e, (okB_iff.1 ox).1, (okB_iff.1 oy).1, by omega, by omega, e0, e1⟩
theorem sext {g : List Typ} {x : Typ} (hg : ∀ u ∈ g, sm u) (hx : sm x) : ∀ u ∈ g ++ [x], sm u := fun u hu => by
  rcases List.mem_append.1 hu with h | h
  · exact hg u h
  · simp at h; subst h; exact hx
theorem mkVars_mem {g : List Typ} {t : Typ} {v : Int} (h : v ∈ mkVars g t) : ∃ i : Nat, v = i ∧ i < g.length ∧ tyAt g i = t := by
  unfold mkVars at h
  obtain ⟨i, hi, rfl⟩ := List.mem_map.1 h
  rw [List.mem_filter] at hi
  exact ⟨i, rfl, by simpa using hi.1, (same_eq _ _).1 hi.2⟩
theorem mkVars_get {g : List Typ} {t : Typ} {c : Int} (h0 : 0 ≤ c) (h1 : c < (mkVars g t).length) : ∃ i : Nat, (mkVars g t).getD c.toNat 0 = i ∧ i < g.length ∧ tyAt g i = t := by
  have hlt : c.toNat < (mkVars g t).length := by omega
  rw [getD_at _ _ hlt]
  exact mkVars_mem (List.getElem_mem hlt)
theorem mkVars_draw {L : List Int} {g : List Typ} {t : Typ} {a : Nat} (h : decide (((mkVars g t).length : Int) > 0) = true) (hl : g.length ≤ 1000000) : ∃ i : Nat, (mkVars g t).getD (next L (mkVars g t).length a).1.toNat 0 = i ∧ i < g.length ∧ tyAt g i = t := by
  have hle : (mkVars g t).length ≤ g.length := by
    unfold mkVars; rw [List.length_map]
    have := List.length_filter_le (varB g t) (List.range g.length)
    rwa [List.length_range] at this
  have hr := next_range L a (n := (mkVars g t).length) (by simp at h; omega) (by omega)
  exact mkVars_get hr.1 hr.2
theorem tyAt_0 (g : List Typ) (a : Typ) : tyAt (g ++ [a]) 0 = a := by rw [tyAt_right _ _ (by simp)]; rfl
theorem tyAt_1 (g : List Typ) (a b : Typ) : tyAt (g ++ [a] ++ [b]) 1 = a := by rw [tyAt_left _ _ (by simp) (by simp)]; exact tyAt_0 g a
theorem v0 {g : List Typ} {a : Typ} : HasT (g ++ [a]) (vr 0) a := HasT.varI (i := 0) (by simp) (tyAt_0 g a)
theorem v1 {g : List Typ} {a b : Typ} : HasT (g ++ [a] ++ [b]) (vr 1) a := HasT.varI (i := 1) (by simp) (tyAt_1 g a b)
theorem num_typed (g : List Typ) : ∀ n, HasT g (num n) .nat
  | 0 => .zero
  | n + 1 => .succ (num_typed g n)
theorem pred_typed (g : List Typ) : HasT g predT (.func .nat .nat) :=
  .lam (by decide) (by decide) (.recu (by decide) .zero (.lam (by decide) (by decide) (.lam (by decide) (by decide) v1)) v0)
theorem plus_typed (g : List Typ) : HasT g plusT (.func .nat (.func .nat .nat)) :=
  .lam (by decide) (by decide) (.lam (by decide) (by decide) (.recu (by decide) v1 (.lam (by decide) (by decide) (.lam (by decide) (by decide) (.succ v0))) v0))
theorem sub_typed (g : List Typ) : HasT g subT (.func .nat (.func .nat .nat)) :=
  .lam (by decide) (by decide) (.lam (by decide) (by decide) (.recu (by decide) v1 (.lam (by decide) (by decide) (.lam (by decide) (by decide) (.app (pred_typed _) v0))) v0))
theorem kind1 {t : Typ} (h : t.shape = true) (hk : t.kind = 1) : t = .nat := by
  obtain ⟨k, l⟩ := t
  simp only [Typ.kind_mk] at hk; subst hk
  simp only [Typ.shape, Bool.and_eq_true, beq_iff_eq] at h
  have : l = [] := by have h1 := h.1; simp [wantTy] at h1; exact List.eq_nil_of_length_eq_zero h1.symm
  subst this; rfl
theorem kind2 {t : Typ} (h : t.shape = true) (hk : t.kind = 2) : t = .list := by
  obtain ⟨k, l⟩ := t
  simp only [Typ.kind_mk] at hk; subst hk
  simp only [Typ.shape, Bool.and_eq_true, beq_iff_eq] at h
  have : l = [] := by have h1 := h.1; simp [wantTy] at h1; exact List.eq_nil_of_length_eq_zero h1.symm
  subst this; rfl
theorem kind5 {t : Typ} (h : t.shape = true) (h1 : t.kind ≠ 1) (h2 : t.kind ≠ 2) (h3 : t.kind ≠ 3) (h4 : t.kind ≠ 4) : t = .unit := by
  obtain ⟨k, l⟩ := t
  simp only [Typ.kind_mk] at *
  simp only [Typ.shape, Bool.and_eq_true, beq_iff_eq] at h
  by_cases hk : k = 5
  · subst hk
    have : l = [] := by have h1 := h.1; simp [wantTy] at h1; exact List.eq_nil_of_length_eq_zero h1.symm
    subst this; rfl
  · have h5 := h.1
    simp [wantTy, h1, h2, h3, h4, hk] at h5
theorem flat_typed {L : List Int} {rec : Mk} {deep : Bool} {g : List Typ} {t : Typ} (ht : sm t) (hg : ∀ u ∈ g, sm u) (hrec : ∀ g' t' a, g'.length ≤ g.length + 3 → sm t' → (∀ u ∈ g', sm u) → (deep = true ∨ t'.sz < t.sz) → HasT g' (rec g' t' a).1 t') (a : Nat) : HasT g (flatBody L rec deep g t a).1 t := by
  unfold flatBody
  split
  · rename_i hk
    have e := kind1 ht.1 (by simpa using hk)
    split
    · rename_i hd
      dsimp only
      split
      · dsimp only
        have := hrec g t (next L 5 a).2 (by omega) ht hg (.inl hd)
        rw [e] at this ⊢; exact .succ this
      · split
        · dsimp only
          have h1 := hrec g t (next L 5 a).2 (by omega) ht hg (.inl hd)
          have h2 := hrec g t (rec g t (next L 5 a).2).2 (by omega) ht hg (.inl hd)
          rw [e] at h1 h2 ⊢
          exact .app (.app (plus_typed g) h1) h2
        · split
          · dsimp only
            have h1 := hrec g t (next L 5 a).2 (by omega) ht hg (.inl hd)
            have h2 := hrec g t (rec g t (next L 5 a).2).2 (by omega) ht hg (.inl hd)
            rw [e] at h1 h2 ⊢
            exact .app (.app (sub_typed g) h1) h2
          · rw [e]; exact num_typed g _
    · rw [e]; exact num_typed g _
  · split
    · rename_i hk
      have e := kind2 ht.1 (by simpa using hk)
      split
      · rename_i hd
        dsimp only
        split
        · dsimp only
          have h1 := hrec g .nat (next L 2 a).2 (by omega) sm_nat hg (.inl hd)
          have h2 := hrec g t (rec g .nat (next L 2 a).2).2 (by omega) ht hg (.inl hd)
          rw [e] at h2 ⊢
          exact .cons h1 h2
        · rw [e]; exact .nil
      · rw [e]; exact .nil
    · split
      · rename_i hk
        obtain ⟨x, y, e, sx, sy, zx, zy, e0, e1⟩ := sm_args ht (.inl (by simpa using hk))
        have hts : t.sz = 3 := by rw [e]; simp [Typ.sz, szTys]; omega
        rw [e0, e1]
        dsimp only
        have h1 := hrec g x a (by omega) ⟨sx, by omega⟩ hg (.inr (by omega))
        have h2 := hrec g y (rec g x a).2 (by omega) ⟨sy, by omega⟩ hg (.inr (by omega))
        have : t = .two x y := by rw [e, show t.kind = 3 by simpa using hk]; rfl
        rw [this]
        exact .pair (okP sx sy (by omega)) h1 h2
      · split
        · rename_i hk
          obtain ⟨x, y, e, sx, sy, zx, zy, e0, e1⟩ := sm_args ht (.inr (by simpa using hk))
          have hts : t.sz = 3 := by rw [e]; simp [Typ.sz, szTys]; omega
          rw [e0, e1]
          dsimp only
          have h2 := hrec (g ++ [x]) y a (by simp) ⟨sy, by omega⟩ (sext hg ⟨sx, by omega⟩) (.inr (by omega))
          have : t = .func x y := by rw [e, show t.kind = 4 by simpa using hk]; rfl
          rw [this]
          exact .lam (okB_iff.2 ⟨sx, by omega⟩) (okF sx sy (by omega)) h2
        · rename_i h1 h2 h3 h4
          rw [kind5 ht.1 (by simpa using h1) (by simpa using h2) (by simpa using h3) (by simpa using h4)]
          exact .unit
theorem deep_typed {L : List Int} {rec : Mk} {g : List Typ} {t : Typ} (ht : sm t) (hg : ∀ u ∈ g, sm u) (hrec : ∀ g' t' a, g'.length ≤ g.length + 3 → sm t' → (∀ u ∈ g', sm u) → HasT g' (rec g' t' a).1 t') {c : Int} {a : Nat} {r : Trm × Nat} (hr : deepBody L rec g t c a = some r) : HasT g r.1 t := by
  have so : sm (mkType L 0 a).1 := ⟨mkType_shape L 0 a, by rw [mkType_sz0]; omega⟩
  have s0 := mkType_sz0 L a
  have h3 := ht.2
  have nsz : Typ.nat.sz = 1 := rfl
  have lsz : Typ.list.sz = 1 := rfl
  have hft : (Typ.func t t).shape = true := func_shape ht.1 ht.1
  have hfz := func_sz t t
  unfold deepBody at hr
  split at hr
  · injection hr with hr; subst hr
    exact .app (.lam (sm_ok so) (okF so.1 ht.1 (by omega)) (hrec _ _ _ (by simp) ht (sext hg so))) (hrec _ _ _ (by omega) so hg)
  split at hr
  · injection hr with hr; subst hr
    exact .fst (.pair (okP ht.1 so.1 (by omega)) (hrec _ _ _ (by omega) ht hg) (hrec _ _ _ (by omega) so hg))
  split at hr
  · injection hr with hr; subst hr
    refine .recu (sm_ok ht) (hrec _ _ _ (by omega) ht hg) (.lam (by decide) (okF rfl hft (by omega)) (.lam (sm_ok ht) (okF ht.1 ht.1 (by omega)) ?_)) (num_typed g _)
    have := hrec (g ++ [.nat, t]) t a (by simp) ht (by rw [show g ++ [Typ.nat, t] = g ++ [Typ.nat] ++ [t] by simp]; exact sext (sext hg sm_nat) ht)
    rwa [show g ++ [Typ.nat, t] = g ++ [Typ.nat] ++ [t] by simp] at this ⊢
  split at hr
  · injection hr with hr; subst hr
    have hlt : (Typ.func .list (.func t t)).shape = true := func_shape rfl hft
    have hlz := func_sz .list (.func t t)
    refine .fold (sm_ok ht) (hrec _ _ _ (by omega) ht hg) (.lam (by decide) (okF rfl hlt (by omega)) (.lam (by decide) (okF rfl hft (by omega)) (.lam (sm_ok ht) (okF ht.1 ht.1 (by omega)) ?_))) (hrec _ _ _ (by omega) sm_list hg)
    have := hrec (g ++ [.nat, .list, t]) t a (by simp) ht (by rw [show g ++ [Typ.nat, Typ.list, t] = g ++ [Typ.nat] ++ [Typ.list] ++ [t] by simp]; exact sext (sext (sext hg sm_nat) sm_list) ht)
    rwa [show g ++ [Typ.nat, Typ.list, t] = g ++ [Typ.nat] ++ [Typ.list] ++ [t] by simp] at this ⊢
  split at hr
  · injection hr with hr; subst hr
    exact .snd (.pair (okP so.1 ht.1 (by omega)) (hrec _ _ _ (by omega) so hg) (hrec _ _ _ (by omega) ht hg))
  split at hr
  · split at hr
    · rename_i i hi
      injection hr with hr; subst hr
      obtain ⟨h1, h2⟩ := mkFun_some hi
      have hlt : g.length - 1 - i < g.length := by omega
      have o : sm (tyAt g i) := by unfold tyAt; rw [getD_at _ _ hlt]; exact hg _ (List.getElem_mem hlt)
      simp only [funB, Bool.and_eq_true, beq_iff_eq] at h2
      obtain ⟨x, y, e, sx, sy, zx, zy, e0, e1⟩ := sm_args o (.inr h2.1)
      have hy : y = t := by rw [← e1]; exact (same_eq _ _).1 h2.2
      have hf : tyAt g i = .func x t := by rw [e, show (tyAt g i).kind = 4 from h2.1, hy]; rfl
      have e0' : (g.getD (g.length - 1 - i) Typ.zero).args.getD 0 Typ.zero = x := e0
      dsimp only
      rw [e0']
      exact .app (HasT.varI h1 hf) (hrec _ _ _ (by omega) ⟨sx, by omega⟩ hg)
    · cases hr
  · cases hr
theorem mkTerm_typed (L : List Int) : ∀ (n : Nat) (dep : Int) (g : List Typ) (t : Typ) (a : Nat), sm t → (∀ u ∈ g, sm u) → g.length + 3 * n ≤ 1000000 → fuelOk n dep t → HasT g (mkTerm L n dep g t a).1 t
  | 0, dep, g, t, a, ht, hg, hl, hf => by
    have := t.sz_pos
    rcases hf with ⟨h1, h2⟩ | ⟨h1, h2⟩ <;> omega
  | n + 1, dep, g, t, a, ht, hg, hl, hf => by
    have hrec : ∀ g' t' a, g'.length ≤ g.length + 3 → sm t' → (∀ u ∈ g', sm u) → (decide (dep > 0) = true ∨ t'.sz < t.sz) → HasT g' (mkTerm L n (dep - 1) g' t' a).1 t' := fun g' t' a' h0 h1 h2 h3 => by
      refine mkTerm_typed L n (dep - 1) g' t' a' h1 h2 (by omega) ?_
      have hs' := h1.2
      unfold fuelOk at hf ⊢
      by_cases hc : dep - 1 ≤ 0
      · refine .inl ⟨hc, ?_⟩
        rcases hf with ⟨f1, f2⟩ | ⟨f1, f2⟩
        · rcases h3 with h3 | h3
          · simp at h3; omega
          · omega
        · omega
      · refine .inr ⟨by omega, ?_⟩
        rcases hf with ⟨f1, f2⟩ | ⟨f1, f2⟩ <;> omega
    show HasT g (termBody L (mkTerm L n (dep - 1)) (decide (dep > 0)) g t a).1 t
    unfold termBody
    dsimp only
    split
    · rename_i hc
      rw [Bool.and_eq_true] at hc
      obtain ⟨i, e1, e2, e3⟩ := mkVars_draw (L := L) (a := (draw3 L g t a).2) hc.1 (by omega)
      rw [e1]
      exact HasT.varI e2 e3
    · cases hr : (if decide (dep > 0) = true then deepBody L (mkTerm L n (dep - 1)) g t (next L 8 (draw3 L g t a).2).1 (next L 8 (draw3 L g t a).2).2 else none) with
      | some r =>
        simp only [Option.getD_some]
        split at hr
        · rename_i hd
          exact deep_typed ht hg (fun g' t' a' h0 h1 h2 => hrec g' t' a' h0 h1 h2 (.inl hd)) hr
        · cases hr
      | none =>
        simp only [Option.getD_none]
        exact flat_typed ht hg hrec _
end Go.AM
set_option linter.unusedVariables false
set_option linter.unusedSimpArgs false
namespace Go.AM
open Go Go.RowKit

/- A variable that is free weighs w, every other node 1. -/
mutual
def Trm.wt (w : Nat) : Trm → Nat → Nat
  | .mk k i _ l, b => (if k == 1 && decide (i ≥ (b : Int)) then w else 1) + wts w l (if k == 2 then b + 1 else b)
def wts (w : Nat) : List Trm → Nat → Nat
  | [], _ => 0
  | a :: l, b => a.wt w b + wts w l b
end
theorem wts_mono {w : Nat} {b b' : Nat} : ∀ (l : List Trm), (∀ a ∈ l, a.wt w b' ≤ a.wt w b) → wts w l b' ≤ wts w l b
  | [], _ => Nat.le_refl _
  | a :: l, h => by
    have h1 := h a (List.mem_cons_self ..)
    have h2 := wts_mono l (fun x hx => h x (List.mem_cons_of_mem _ hx))
    simp only [wts]; omega
theorem wt_mono {w : Nat} (hw : 1 ≤ w) (t : Trm) : ∀ {b b' : Nat}, b ≤ b' → t.wt w b' ≤ t.wt w b := by
  induction t using Trm.ind with
  | _ k i s l ih =>
    intro b b' h
    simp only [Trm.wt]
    have h2 : wts w l (if (k == 2) = true then b' + 1 else b') ≤ wts w l (if (k == 2) = true then b + 1 else b) := wts_mono l (fun a ha => ih a ha (by split <;> omega))
    have h3 : (if (k == 1 && decide (i ≥ (b' : Int))) = true then w else 1) ≤ (if (k == 1 && decide (i ≥ (b : Int))) = true then w else 1) := by
      split
      · rename_i hc
        rw [if_pos (by simp at hc ⊢; exact ⟨hc.1, by omega⟩)]; exact Nat.le_refl _
      · split <;> omega
    omega
theorem wt_tm0 (w : Nat) {k : Int} (h1 : (k == 1) = false) {i : Int} {s : Typ} {b : Nat} : (Trm.mk k i s []).wt w b = 1 := by simp [Trm.wt, wts, h1]
theorem wt_tm1 (w : Nat) {k : Int} (h1 : (k == 1) = false) (h2 : (k == 2) = false) {i : Int} {s : Typ} {x : Trm} {b : Nat} : (Trm.mk k i s [x]).wt w b = 1 + x.wt w b := by simp [Trm.wt, wts, h1, h2]
theorem wt_tm2 (w : Nat) {k : Int} (h1 : (k == 1) = false) (h2 : (k == 2) = false) {i : Int} {s : Typ} {x y : Trm} {b : Nat} : (Trm.mk k i s [x, y]).wt w b = 1 + x.wt w b + y.wt w b := by simp [Trm.wt, wts, h1, h2]; omega
theorem wt_tm3 (w : Nat) {k : Int} (h1 : (k == 1) = false) (h2 : (k == 2) = false) {i : Int} {s : Typ} {x y z : Trm} {b : Nat} : (Trm.mk k i s [x, y, z]).wt w b = 1 + x.wt w b + y.wt w b + z.wt w b := by simp [Trm.wt, wts, h1, h2]; omega
theorem wt_lam {w : Nat} (hw : 1 ≤ w) {i : Int} {s : Typ} {x : Trm} {b : Nat} : (Trm.mk 2 i s [x]).wt w b ≤ 1 + x.wt w b := by
  have := wt_mono hw x (show b ≤ b + 1 by omega)
  simp [Trm.wt, wts]; omega
theorem wt_num (w b : Nat) : ∀ n, (num n).wt w b = n + 1
  | 0 => by rw [num, tm, wt_tm0 w rfl]
  | n + 1 => by rw [num, tm, wt_tm1 w rfl rfl, wt_num w b n]; omega
theorem wt_var {w : Nat} (hw : 1 ≤ w) (i : Int) (b : Nat) : (Trm.var i).wt w b ≤ w := by
  simp only [Trm.var, Trm.wt, wts]; split <;> omega
theorem wt_closed (w : Nat) : plusT.wt w 0 = 9 ∧ subT.wt w 0 = 16 := by
  constructor <;> simp [plusT, subT, predT, lamN, recN, vr, Trm.var, tm, Trm.wt, wts]
/-- The bounds: for types without parts, for small types. -/
def bw (w : Nat) : Nat → Nat
  | 0 => max w 3
  | d + 1 => max (4 + 3 * bw w d) (18 + 2 * bw w d)
def pw (w : Nat) : Nat → Nat
  | 0 => 1 + 2 * bw w 0
  | d + 1 => max (4 + 2 * pw w d + bw w d) (bw w (d + 1))
theorem bw_ge (w : Nat) : ∀ d, w ≤ bw w d ∧ 3 ≤ bw w d
  | 0 => ⟨Nat.le_max_left _ _, Nat.le_max_right _ _⟩
  | d + 1 => by
    have := bw_ge w d
    have h1 := Nat.le_max_left (4 + 3 * bw w d) (18 + 2 * bw w d)
    exact ⟨by simp only [bw]; omega, by simp only [bw]; omega⟩
theorem pw_ge (w : Nat) : ∀ d, bw w d ≤ pw w d
  | 0 => by simp only [pw]; omega
  | d + 1 => by simp only [pw]; exact Nat.le_max_right _ _
def ww (w d : Nat) (t : Typ) : Nat := if t.sz ≤ 1 then bw w d else pw w d
theorem num3 (L : List Int) (w b a : Nat) : (num (next L 3 a).1.toNat).wt w b ≤ 3 := by
  have := next_range L a (show (1 : Int) ≤ 3 by omega) (by omega)
  rw [wt_num]; omega
theorem sext2 {g : List Typ} {x y : Typ} (hg : ∀ u ∈ g, sm u) (hx : sm x) (hy : sm y) : ∀ u ∈ g ++ [x, y], sm u := by
  rw [show g ++ [x, y] = g ++ [x] ++ [y] by simp]; exact sext (sext hg hx) hy
theorem sext3 {g : List Typ} {x y z : Typ} (hg : ∀ u ∈ g, sm u) (hx : sm x) (hy : sm y) (hz : sm z) : ∀ u ∈ g ++ [x, y, z], sm u := by
  rw [show g ++ [x, y, z] = g ++ [x] ++ [y] ++ [z] by simp]; exact sext (sext (sext hg hx) hy) hz
theorem flat0_wt {L : List Int} {rec : Mk} {w : Nat} (hw : 1 ≤ w) {g : List Typ} {t : Typ} (ht : sm t) (hg : ∀ u ∈ g, sm u) (hrec : ∀ g' t' a, t'.sz < t.sz → sm t' → (∀ u ∈ g', sm u) → (rec g' t' a).1.wt w 0 ≤ ww w 0 t') (a : Nat) : (flatBody L rec false g t a).1.wt w 0 ≤ ww w 0 t := by
  have hb := bw_ge w 0
  have hp := pw_ge w 0
  have hW : bw w 0 ≤ ww w 0 t := by unfold ww; split <;> omega
  unfold flatBody
  simp only [Bool.false_eq_true, if_false]
  split
  · have := num3 L w 0 a; dsimp only; omega
  · split
    · rw [tm, wt_tm0 w rfl]; omega
    · split
      · rename_i hk
        obtain ⟨x, y, e, sx, sy, zx, zy, e0, e1⟩ := sm_args ht (.inl (by simpa using hk))
        have hts : t.sz = 3 := by rw [e]; simp [Typ.sz, szTys]; omega
        rw [e0, e1]; dsimp only
        have h1 := hrec g x a (by omega) ⟨sx, by omega⟩ hg
        have h2 := hrec g y (rec g x a).2 (by omega) ⟨sy, by omega⟩ hg
        simp only [ww, zx, zy, hts] at h1 h2 ⊢
        rw [tm, wt_tm2 w rfl rfl]
        simp only [pw] at *
        simp at h1 h2 ⊢; omega
      · split
        · rename_i hk
          obtain ⟨x, y, e, sx, sy, zx, zy, e0, e1⟩ := sm_args ht (.inr (by simpa using hk))
          have hts : t.sz = 3 := by rw [e]; simp [Typ.sz, szTys]; omega
          rw [e0, e1]; dsimp only
          have h2 := hrec (g ++ [x]) y a (by omega) ⟨sy, by omega⟩ (sext hg ⟨sx, by omega⟩)
          have h3 := wt_lam hw (i := 0) (s := x) (x := (rec (g ++ [x]) y a).1) (b := 0)
          simp only [ww, zy, hts] at h2 ⊢
          simp only [pw] at *
          simp at h2 ⊢; omega
        · rw [tm, wt_tm0 w rfl]; omega
theorem flat_wt {L : List Int} {rec : Mk} {w d : Nat} (hw : 1 ≤ w) {g : List Typ} {t : Typ} (ht : sm t) (hg : ∀ u ∈ g, sm u) (hrec : ∀ g' t' a, sm t' → (∀ u ∈ g', sm u) → (rec g' t' a).1.wt w 0 ≤ ww w d t') (a : Nat) : (flatBody L rec true g t a).1.wt w 0 ≤ ww w (d + 1) t := by
  have hb := bw_ge w d
  have hb1 := bw_ge w (d + 1)
  have hp1 := pw_ge w (d + 1)
  have hW : bw w (d + 1) ≤ ww w (d + 1) t := by unfold ww; split <;> omega
  have hbd : 4 + 3 * bw w d ≤ bw w (d + 1) ∧ 18 + 2 * bw w d ≤ bw w (d + 1) := ⟨Nat.le_max_left _ _, Nat.le_max_right _ _⟩
  have hcl := wt_closed w
  unfold flatBody
  simp only [if_true]
  split
  · rename_i hk
    have e := kind1 ht.1 (by simpa using hk)
    have hn : ww w d t = bw w d := by rw [e]; rfl
    split
    · have := hrec g t (next L 5 a).2 ht hg
      rw [tm, wt_tm1 w rfl rfl]; omega
    · split
      · have h1 := hrec g t (next L 5 a).2 ht hg
        have h2 := hrec g t (rec g t (next L 5 a).2).2 ht hg
        simp only [appT, List.foldl_cons, List.foldl_nil]
        rw [tm, tm, wt_tm2 w rfl rfl, wt_tm2 w rfl rfl]; omega
      · split
        · have h1 := hrec g t (next L 5 a).2 ht hg
          have h2 := hrec g t (rec g t (next L 5 a).2).2 ht hg
          simp only [appT, List.foldl_cons, List.foldl_nil]
          rw [tm, tm, wt_tm2 w rfl rfl, wt_tm2 w rfl rfl]; omega
        · have := num3 L w 0 (next L 5 a).2; dsimp only; omega
  · split
    · rename_i hk
      have e := kind2 ht.1 (by simpa using hk)
      have hn : ww w d t = bw w d := by rw [e]; rfl
      have hn2 : ww w d .nat = bw w d := rfl
      split
      · have h1 := hrec g .nat (next L 2 a).2 sm_nat hg
        have h2 := hrec g t (rec g .nat (next L 2 a).2).2 ht hg
        rw [tm, wt_tm2 w rfl rfl]; omega
      · rw [tm, wt_tm0 w rfl]; omega
    · split
      · rename_i hk
        obtain ⟨x, y, e, sx, sy, zx, zy, e0, e1⟩ := sm_args ht (.inl (by simpa using hk))
        rw [e0, e1]; dsimp only
        have h1 := hrec g x a ⟨sx, by omega⟩ hg
        have h2 := hrec g y (rec g x a).2 ⟨sy, by omega⟩ hg
        have n1 : ww w d x = bw w d := by unfold ww; rw [if_pos (by omega)]
        have n2 : ww w d y = bw w d := by unfold ww; rw [if_pos (by omega)]
        rw [tm, wt_tm2 w rfl rfl]; omega
      · split
        · rename_i hk
          obtain ⟨x, y, e, sx, sy, zx, zy, e0, e1⟩ := sm_args ht (.inr (by simpa using hk))
          rw [e0, e1]; dsimp only
          have h2 := hrec (g ++ [x]) y a ⟨sy, by omega⟩ (sext hg ⟨sx, by omega⟩)
          have n2 : ww w d y = bw w d := by unfold ww; rw [if_pos (by omega)]
          have h3 := wt_lam hw (i := 0) (s := x) (x := (rec (g ++ [x]) y a).1) (b := 0)
          omega
        · rw [tm, wt_tm0 w rfl]; omega
theorem deep_wt {L : List Int} {rec : Mk} {w d : Nat} (hw : 1 ≤ w) {g : List Typ} {t : Typ} (ht : sm t) (hg : ∀ u ∈ g, sm u) (hrec : ∀ g' t' a, sm t' → (∀ u ∈ g', sm u) → (rec g' t' a).1.wt w 0 ≤ ww w d t') {c : Int} {a : Nat} {r : Trm × Nat} (hr : deepBody L rec g t c a = some r) : r.1.wt w 0 ≤ ww w (d + 1) t := by
  have hb := bw_ge w d
  have hp := pw_ge w d
  have hbd : 4 + 3 * bw w d ≤ bw w (d + 1) ∧ 18 + 2 * bw w d ≤ bw w (d + 1) := ⟨Nat.le_max_left _ _, Nat.le_max_right _ _⟩
  have hpd : 4 + 2 * pw w d + bw w d ≤ pw w (d + 1) ∧ bw w (d + 1) ≤ pw w (d + 1) := ⟨Nat.le_max_left _ _, Nat.le_max_right _ _⟩
  have so : sm (mkType L 0 a).1 := ⟨mkType_shape L 0 a, by rw [mkType_sz0]; omega⟩
  have ns : ww w d (mkType L 0 a).1 = bw w d := by unfold ww; rw [if_pos (by rw [mkType_sz0]; omega)]
  have nl : ww w d .list = bw w d := rfl
  -- twice the same type and one without parts
  have key : 4 + 2 * ww w d t + bw w d ≤ ww w (d + 1) t := by
    unfold ww; split <;> omega
  have key2 : bw w d ≤ ww w d t := by unfold ww; split <;> omega
  have key3 : 18 + 2 * bw w d ≤ ww w (d + 1) t := by unfold ww; split <;> omega
  unfold deepBody at hr
  split at hr
  · injection hr with hr; subst hr
    have h1 := hrec (g ++ [(mkType L 0 a).1]) t (mkType L 0 a).2 ht (sext hg so)
    have h2 := hrec g (mkType L 0 a).1 (rec (g ++ [(mkType L 0 a).1]) t (mkType L 0 a).2).2 so hg
    have h3 := wt_lam hw (i := 0) (s := (mkType L 0 a).1) (x := (rec (g ++ [(mkType L 0 a).1]) t (mkType L 0 a).2).1) (b := 0)
    dsimp only
    rw [tm, wt_tm2 w rfl rfl]; omega
  split at hr
  · injection hr with hr; subst hr
    have h1 := hrec g t (mkType L 0 a).2 ht hg
    have h2 := hrec g (mkType L 0 a).1 (rec g t (mkType L 0 a).2).2 so hg
    dsimp only
    rw [tm, tm, wt_tm1 w rfl rfl, wt_tm2 w rfl rfl]; omega
  split at hr
  · injection hr with hr; subst hr
    have h1 := hrec (g ++ [.nat, t]) t a ht (sext2 hg sm_nat ht)
    have h2 := hrec g t (rec (g ++ [.nat, t]) t a).2 ht hg
    have h3 := num3 L w 0 (rec g t (rec (g ++ [.nat, t]) t a).2).2
    have h4 := wt_lam hw (i := 0) (s := Typ.nat) (x := .mk 2 0 t [(rec (g ++ [.nat, t]) t a).1]) (b := 0)
    have h5 := wt_lam hw (i := 0) (s := t) (x := (rec (g ++ [.nat, t]) t a).1) (b := 0)
    dsimp only
    rw [wt_tm3 w rfl rfl]
    have key4 : 6 + 2 * ww w d t ≤ ww w (d + 1) t := by unfold ww; split <;> omega
    omega
  split at hr
  · injection hr with hr; subst hr
    have h1 := hrec (g ++ [.nat, .list, t]) t a ht (sext3 hg sm_nat sm_list ht)
    have h2 := hrec g t (rec (g ++ [.nat, .list, t]) t a).2 ht hg
    have h3 := hrec g .list (rec g t (rec (g ++ [.nat, .list, t]) t a).2).2 sm_list hg
    have h4 := wt_lam hw (i := 0) (s := Typ.nat) (x := .mk 2 0 .list [.mk 2 0 t [(rec (g ++ [.nat, .list, t]) t a).1]]) (b := 0)
    have h5 := wt_lam hw (i := 0) (s := Typ.list) (x := .mk 2 0 t [(rec (g ++ [.nat, .list, t]) t a).1]) (b := 0)
    have h6 := wt_lam hw (i := 0) (s := t) (x := (rec (g ++ [.nat, .list, t]) t a).1) (b := 0)
    dsimp only
    rw [wt_tm3 w rfl rfl]; omega
  split at hr
  · injection hr with hr; subst hr
    have h1 := hrec g (mkType L 0 a).1 (mkType L 0 a).2 so hg
    have h2 := hrec g t (rec g (mkType L 0 a).1 (mkType L 0 a).2).2 ht hg
    dsimp only
    rw [tm, tm, wt_tm1 w rfl rfl, wt_tm2 w rfl rfl]; omega
  split at hr
  · split at hr
    · rename_i i hi
      injection hr with hr; subst hr
      obtain ⟨h1, h2⟩ := mkFun_some hi
      have hlt : g.length - 1 - i < g.length := by omega
      have o : sm (tyAt g i) := by unfold tyAt; rw [getD_at _ _ hlt]; exact hg _ (List.getElem_mem hlt)
      simp only [funB, Bool.and_eq_true, beq_iff_eq] at h2
      obtain ⟨x, y, e, sx, sy, zx, zy, e0, e1⟩ := sm_args o (.inr h2.1)
      have e0' : (g.getD (g.length - 1 - i) Typ.zero).args.getD 0 Typ.zero = x := e0
      dsimp only
      rw [e0', tm, wt_tm2 w rfl rfl]
      have hx := hrec g x a ⟨sx, by omega⟩ hg
      have nx : ww w d x = bw w d := by unfold ww; rw [if_pos (by omega)]
      have hv := wt_var hw i 0
      omega
    · cases hr
  · cases hr
theorem fuel_step {n : Nat} {dep : Int} {t t' : Typ} (hf : fuelOk (n + 1) dep t) (h1 : t'.sz ≤ 64) (h : 0 < dep ∨ t'.sz < t.sz) : fuelOk n (dep - 1) t' := by
  unfold fuelOk at hf ⊢
  by_cases hc : dep - 1 ≤ 0
  · refine .inl ⟨hc, ?_⟩
    rcases hf with ⟨f1, f2⟩ | ⟨f1, f2⟩
    · rcases h with h | h <;> omega
    · omega
  · refine .inr ⟨by omega, ?_⟩
    rcases hf with ⟨f1, f2⟩ | ⟨f1, f2⟩ <;> omega
theorem mkTerm_wt (L : List Int) {w : Nat} (hw : 1 ≤ w) : ∀ (n : Nat) (dep : Int) (g : List Typ) (t : Typ) (a : Nat), sm t → (∀ u ∈ g, sm u) → fuelOk n dep t → (mkTerm L n dep g t a).1.wt w 0 ≤ ww w dep.toNat t
  | 0, dep, g, t, a, ht, hg, hf => by
    have := t.sz_pos
    rcases hf with ⟨h1, h2⟩ | ⟨h1, h2⟩ <;> omega
  | n + 1, dep, g, t, a, ht, hg, hf => by
    have hb := bw_ge w dep.toNat
    have hp := pw_ge w dep.toNat
    have hW : bw w dep.toNat ≤ ww w dep.toNat t := by unfold ww; split <;> omega
    show (termBody L (mkTerm L n (dep - 1)) (decide (dep > 0)) g t a).1.wt w 0 ≤ _
    unfold termBody
    dsimp only
    split
    · have := wt_var hw ((mkVars g t).getD (next L (mkVars g t).length (draw3 L g t a).2).1.toNat 0) 0
      dsimp only; omega
    · by_cases hd : 0 < dep
      · have hdt : decide (dep > 0) = true := by simpa using hd
        have hrec : ∀ g' t' a, sm t' → (∀ u ∈ g', sm u) → (mkTerm L n (dep - 1) g' t' a).1.wt w 0 ≤ ww w (dep - 1).toNat t' := fun g' t' a' h1 h2 =>
          mkTerm_wt L hw n (dep - 1) g' t' a' h1 h2 (fuel_step hf (by have := h1.2; omega) (.inl hd))
        rw [show dep.toNat = (dep - 1).toNat + 1 by omega]
        simp only [hdt, if_true]
        cases hr : deepBody L (mkTerm L n (dep - 1)) g t (next L 8 (draw3 L g t a).2).1 (next L 8 (draw3 L g t a).2).2 with
        | some r => exact deep_wt hw ht hg hrec hr
        | none => exact flat_wt hw ht hg hrec _
      · have hdt : decide (dep > 0) = false := by simp; omega
        have hrec : ∀ g' t' a, t'.sz < t.sz → sm t' → (∀ u ∈ g', sm u) → (mkTerm L n (dep - 1) g' t' a).1.wt w 0 ≤ ww w 0 t' := fun g' t' a' h0 h1 h2 => by
          have := mkTerm_wt L hw n (dep - 1) g' t' a' h1 h2 (fuel_step hf (by have := h1.2; omega) (.inr h0))
          rwa [show (dep - 1).toNat = 0 by omega] at this
        rw [show dep.toNat = 0 by omega]
        simp only [hdt, Bool.false_eq_true, if_false, Option.getD_none]
        exact flat0_wt hw ht hg hrec _
/- The free variables with a number. -/
mutual
def Trm.cnt (v : Nat) : Trm → Nat → Nat
  | .mk k i _ l, b => (if k == 1 && i == ((b + v : Nat) : Int) then 1 else 0) + cnts v l (if k == 2 then b + 1 else b)
def cnts (v : Nat) : List Trm → Nat → Nat
  | [], _ => 0
  | a :: l, b => a.cnt v b + cnts v l b
end
mutual
def Trm.idxB (N : Int) : Trm → Bool
  | .mk k i _ l => (!(k == 1) || decide (i ≤ N)) && idxBs N l
def idxBs (N : Int) : List Trm → Bool
  | [] => true
  | a :: l => a.idxB N && idxBs N l
end
theorem near_each (N : Int) (t : Trm) : ∀ (b : Int) (s : Bool), t.each (fun s i _ => s && decide (i ≤ N)) b s = (s && t.idxB N) := by
  induction t using Trm.ind with
  | _ k i ty l ih =>
    intro b s
    have hl : ∀ (l : List Trm), (∀ a ∈ l, ∀ (b : Int) (s : Bool), a.each (fun s i _ => s && decide (i ≤ N)) b s = (s && a.idxB N)) → ∀ (b : Int) (s : Bool), eachs (fun s i _ => s && decide (i ≤ N)) l b s = (s && idxBs N l) := by
      intro l
      induction l with
      | nil => intro _ b s; simp [eachs, idxBs]
      | cons a l ih2 =>
        intro h b s
        simp only [eachs, idxBs]
        rw [ih2 (fun x hx => h x (List.mem_cons_of_mem _ hx)), h a (List.mem_cons_self ..), Bool.and_assoc]
    simp only [Trm.each, Trm.idxB]
    rw [hl l ih]
    cases k == 1 <;> simp [Bool.and_assoc]
theorem near_eq (t : Trm) : t.near = t.idxB 536870912 := by unfold Trm.near; rw [near_each]; rfl
theorem idxB_of {g : List Typ} {t : Trm} {u : Typ} (h : HasT g t u) : g.length + t.sz ≤ 1000000 → t.idxB 536870912 = true := by
  induction h with
  | var h => intro hb; simp [Trm.var, Trm.idxB, idxBs]; omega
  | lam h1 h2 h3 ih => intro hb; rw [sz_tm1] at hb; simp [Trm.idxB, idxBs]; exact ih (by simp; omega)
  | app h1 h2 i1 i2 => intro hb; rw [tm, sz_tm2] at hb; simp [tm, Trm.idxB, idxBs]; exact ⟨i1 (by omega), i2 (by omega)⟩
  | zero => intro _; rfl
  | succ h1 i1 => intro hb; rw [tm, sz_tm1] at hb; simp [tm, Trm.idxB, idxBs]; exact i1 (by omega)
  | recu h1 h2 h3 h4 i2 i3 i4 => intro hb; rw [sz_tm3] at hb; simp [Trm.idxB, idxBs]; exact ⟨i2 (by omega), i3 (by omega), i4 (by omega)⟩
  | nil => intro _; rfl
  | cons h1 h2 i1 i2 => intro hb; rw [tm, sz_tm2] at hb; simp [tm, Trm.idxB, idxBs]; exact ⟨i1 (by omega), i2 (by omega)⟩
  | fold h1 h2 h3 h4 i2 i3 i4 => intro hb; rw [sz_tm3] at hb; simp [Trm.idxB, idxBs]; exact ⟨i2 (by omega), i3 (by omega), i4 (by omega)⟩
  | pair h1 h2 h3 i2 i3 => intro hb; rw [tm, sz_tm2] at hb; simp [tm, Trm.idxB, idxBs]; exact ⟨i2 (by omega), i3 (by omega)⟩
  | fst h1 i1 => intro hb; rw [tm, sz_tm1] at hb; simp [tm, Trm.idxB, idxBs]; exact i1 (by omega)
  | snd h1 i1 => intro hb; rw [tm, sz_tm1] at hb; simp [tm, Trm.idxB, idxBs]; exact i1 (by omega)
  | unit => intro _; rfl
/-- Counting does not wrap. -/
theorem count_each (v : Nat) (hv : v ≤ 1000000) (t : Trm) : t.shape = true → t.idxB 536870912 = true → ∀ (b s : Nat), b + t.sz ≤ 1000000 → s + t.sz ≤ 1000000 →
    t.each (fun s i b => if w64 (i - b) == (v : Int) then w64 (s + 1) else s) (b : Int) (s : Int) = ((s + t.cnt v b : Nat) : Int) ∧ t.cnt v b ≤ t.sz := by
  induction t using Trm.ind with
  | _ k i ty l ih =>
    intro hs hi b s hb1 hs1
    rw [Trm.shape_iff] at hs
    obtain ⟨h1, h2, h3, h4, h5⟩ := hs
    simp only [Trm.idxB, Bool.and_eq_true] at hi
    have hl : ∀ (l : List Trm), (∀ a ∈ l, a.shape = true → a.idxB 536870912 = true → ∀ (b s : Nat), b + a.sz ≤ 1000000 → s + a.sz ≤ 1000000 → a.each (fun s i b => if w64 (i - b) == (v : Int) then w64 (s + 1) else s) (b : Int) (s : Int) = ((s + a.cnt v b : Nat) : Int) ∧ a.cnt v b ≤ a.sz) →
        (∀ a ∈ l, a.shape = true) → idxBs 536870912 l = true → ∀ (b s : Nat), b + szTms l ≤ 1000000 → s + szTms l ≤ 1000000 → eachs (fun s i b => if w64 (i - b) == (v : Int) then w64 (s + 1) else s) l (b : Int) (s : Int) = ((s + cnts v l b : Nat) : Int) ∧ cnts v l b ≤ szTms l := by
      intro l
      induction l with
      | nil => intro _ _ _ b s _ _; exact ⟨rfl, Nat.le_refl _⟩
      | cons a l ih2 =>
        intro h hsh hix b s hb hs
        simp only [idxBs, Bool.and_eq_true] at hix
        simp only [szTms] at hb hs
        have q1 := h a (List.mem_cons_self ..) (hsh a (List.mem_cons_self ..)) hix.1 b s (by omega) (by omega)
        have q2 := ih2 (fun x hx => h x (List.mem_cons_of_mem _ hx)) (fun x hx => hsh x (List.mem_cons_of_mem _ hx)) hix.2 b (s + a.cnt v b) (by omega) (by omega)
        simp only [eachs, cnts, szTms]
        rw [q1.1, q2.1]
        exact ⟨by omega, by omega⟩
    simp only [Trm.sz] at hb1 hs1 ⊢
    have hb2 : (if (k == 2) = true then w64 ((b : Int) + 1) else (b : Int)) = ((if (k == 2) = true then b + 1 else b : Nat) : Int) := by
      split
      · rw [w64_id (by omega) (by omega)]; omega
      · rfl
    have hsz : (if (k == 2) = true then b + 1 else b : Nat) + szTms l ≤ 1000000 := by split <;> omega
    by_cases hk : k = 1
    · subst hk
      have hi1 : i ≤ 536870912 := by simpa using hi.1
      have hw1 : w64 (i - (b : Int)) = i - b := w64_id (by omega) (by omega)
      have hw2 : w64 ((s : Int) + 1) = ((s + 1 : Nat) : Int) := by rw [w64_id (by omega) (by omega)]; omega
      have hnil : l = [] := List.eq_nil_of_length_eq_zero (by have := h1; simp [arity] at this; exact this.symm)
      subst hnil
      simp only [Trm.each, eachs, Trm.cnt, cnts, beq_self_eq_true, if_true, Bool.true_and, hw1, hw2, Nat.add_zero]
      by_cases hc : i = ((b + v : Nat) : Int)
      · rw [if_pos (by simp; omega), if_pos (by simp [hc])]
        exact ⟨by omega, by omega⟩
      · rw [if_neg (by simp; omega), if_neg (by simp; omega)]
        exact ⟨by omega, by omega⟩
    · have e1 : (k == 1) = false := by simpa using hk
      have := hl l ih h5 hi.2 (if (k == 2) = true then b + 1 else b) s hsz (by omega)
      simp only [Trm.each, Trm.cnt, e1, Bool.false_and, Bool.false_eq_true, if_false, hb2]
      rw [this.1]
      exact ⟨by omega, by omega⟩
theorem count_eq (v : Nat) (hv : v ≤ 1000000) {t : Trm} (h1 : t.shape = true) (h2 : t.idxB 536870912 = true) (h3 : t.sz ≤ 1000000) : t.count v = ((t.cnt v 0 : Nat) : Int) ∧ t.cnt v 0 ≤ t.sz := by
  have := count_each v hv t h1 h2 0 0 (by omega) (by omega)
  exact ⟨by rw [Nat.zero_add] at this; exact this.1, this.2⟩
theorem wt_le {w w' : Nat} (h : w ≤ w') (t : Trm) : ∀ b, t.wt w b ≤ t.wt w' b := by
  induction t using Trm.ind with
  | _ k i s l ih =>
    intro b
    have hl : ∀ (l : List Trm), (∀ a ∈ l, ∀ b, a.wt w b ≤ a.wt w' b) → ∀ b, wts w l b ≤ wts w' l b := by
      intro l
      induction l with
      | nil => intro _ b; exact Nat.le_refl _
      | cons a l ih2 =>
        intro h b
        have q1 := h a (List.mem_cons_self ..) b
        have q2 := ih2 (fun x hx => h x (List.mem_cons_of_mem _ hx)) b
        simp only [wts]; omega
    have h2 := hl l ih (if (k == 2) = true then b + 1 else b)
    simp only [Trm.wt]
    split <;> omega
/-- What comes of putting is not larger than the weight. -/
theorem wt_cnt (k : Nat) (t : Trm) : ∀ b, t.sz + t.cnt 0 b * k ≤ t.wt (k + 1) b := by
  induction t using Trm.ind with
  | _ kd i ty l ih =>
    intro b
    have hl : ∀ (l : List Trm), (∀ a ∈ l, ∀ b, a.sz + a.cnt 0 b * k ≤ a.wt (k + 1) b) → ∀ b, szTms l + cnts 0 l b * k ≤ wts (k + 1) l b := by
      intro l
      induction l with
      | nil => intro _ b; simp [szTms, cnts, wts]
      | cons a l ih2 =>
        intro h b
        have q1 := h a (List.mem_cons_self ..) b
        have q2 := ih2 (fun x hx => h x (List.mem_cons_of_mem _ hx)) b
        simp only [szTms, cnts, wts, Nat.add_mul]; omega
    have h2 := hl l ih (if (kd == 2) = true then b + 1 else b)
    simp only [Trm.sz, Trm.cnt, Trm.wt, Nat.add_mul]
    generalize (if (kd == 2) = true then b + 1 else b) = B at h2 ⊢
    by_cases hc : (kd == 1 && i == ((b + 0 : Nat) : Int)) = true
    · rw [if_pos hc, if_pos (by simp at hc ⊢; exact ⟨hc.1, by omega⟩)]; omega
    · rw [if_neg hc]
      split <;> omega
theorem sz_rebuild_var {f : Int → Int → Trm} (hf : ∀ i b, (f i b).sz = 1) (t : Trm) : ∀ b, t.shape = true → (t.rebuild f b).sz = t.sz := by
  induction t using Trm.ind with
  | _ k i ty l ih =>
    intro b hs
    rw [Trm.shape_iff] at hs
    have hl : ∀ (l : List Trm), (∀ a ∈ l, ∀ b, a.shape = true → (a.rebuild f b).sz = a.sz) → (∀ a ∈ l, a.shape = true) → ∀ b, szTms (rebuilds f l b) = szTms l := by
      intro l
      induction l with
      | nil => intro _ _ b; rfl
      | cons a l ih2 =>
        intro h h' b
        simp only [rebuilds, szTms]
        rw [h a (List.mem_cons_self ..) b (h' a (List.mem_cons_self ..)), ih2 (fun x hx => h x (List.mem_cons_of_mem _ hx)) (fun x hx => h' x (List.mem_cons_of_mem _ hx))]
    simp only [Trm.rebuild]
    split
    · rename_i hk
      have hk1 : k = 1 := by simpa using hk
      subst hk1
      have : l = [] := List.eq_nil_of_length_eq_zero (by have := hs.1; simp [arity] at this; exact this.symm)
      subst this
      rw [hf]; rfl
    · simp only [Trm.sz]; rw [hl l ih hs.2.2.2.2]
theorem sz_lift {t : Trm} (h : t.shape = true) (a y : Int) : (t.lift a y).sz = t.sz := sz_rebuild_var (fun _ _ => rfl) t 0 h
theorem sz_put (y : Trm) (hy : y.shape = true) (t : Trm) : t.shape = true → t.idxB 536870912 = true → ∀ b : Nat, b + t.sz ≤ 1000000 → (t.rebuild (putAt 0 y) b).sz ≤ t.wt y.sz b := by
  have hyp := y.sz_pos
  induction t using Trm.ind with
  | _ k i ty l ih =>
    intro hs hi b hb
    rw [Trm.shape_iff] at hs
    obtain ⟨h1, h2, h3, h4, h5⟩ := hs
    simp only [Trm.idxB, Bool.and_eq_true] at hi
    have hl : ∀ (l : List Trm), (∀ a ∈ l, a.shape = true → a.idxB 536870912 = true → ∀ b : Nat, b + a.sz ≤ 1000000 → (a.rebuild (putAt 0 y) b).sz ≤ a.wt y.sz b) → (∀ a ∈ l, a.shape = true) → idxBs 536870912 l = true → ∀ b : Nat, b + szTms l ≤ 1000000 → szTms (rebuilds (putAt 0 y) l b) ≤ wts y.sz l b := by
      intro l
      induction l with
      | nil => intro _ _ _ b _; exact Nat.le_refl _
      | cons a l ih2 =>
        intro h hsh hix b hb
        simp only [idxBs, Bool.and_eq_true] at hix
        simp only [szTms] at hb
        have q1 := h a (List.mem_cons_self ..) (hsh a (List.mem_cons_self ..)) hix.1 b (by omega)
        have q2 := ih2 (fun x hx => h x (List.mem_cons_of_mem _ hx)) (fun x hx => hsh x (List.mem_cons_of_mem _ hx)) hix.2 b (by omega)
        simp only [rebuilds, szTms, wts]; omega
    simp only [Trm.sz] at hb
    simp only [Trm.rebuild, Trm.wt]
    by_cases hk : k = 1
    · subst hk
      have hi1 : i ≤ 536870912 := by simpa using hi.1
      simp only [beq_self_eq_true, if_true, Bool.true_and]
      unfold putAt
      rw [w64_id (x := i - (b : Int)) (by omega) (by omega)]
      by_cases hc : i = b
      · rw [if_pos (by simp; omega), sz_lift hy, if_pos (by simp; omega)]; omega
      · rw [if_neg (by simp; omega)]
        have hone : ∀ j : Int, (Trm.var j).sz = 1 := fun _ => rfl
        split <;> (rw [hone]; split <;> omega)
    · have e1 : (k == 1) = false := by simpa using hk
      simp only [e1, Bool.false_eq_true, if_false, Bool.false_and, Trm.sz]
      have hb2 : (if (k == 2) = true then w64 ((b : Int) + 1) else (b : Int)) = ((if (k == 2) = true then b + 1 else b : Nat) : Int) := by
        split
        · rw [w64_id (by omega) (by omega)]; omega
        · rfl
      rw [hb2]
      have := hl l ih h5 hi.2 (if (k == 2) = true then b + 1 else b) (by split <;> omega)
      omega
theorem big_of_shape (t : Trm) : t.shape = true → t.big ≤ 65 * t.sz := by
  induction t using Trm.ind with
  | _ k i ty l ih =>
    intro hs
    rw [Trm.shape_iff] at hs
    obtain ⟨h1, h2, h3, h4, h5⟩ := hs
    have hl : ∀ (l : List Trm), (∀ a ∈ l, a.shape = true → a.big ≤ 65 * a.sz) → (∀ a ∈ l, a.shape = true) → bigTms l ≤ 65 * szTms l := by
      intro l
      induction l with
      | nil => intro _ _; exact Nat.le_refl _
      | cons a l ih2 =>
        intro h h'
        have q1 := h a (List.mem_cons_self ..) (h' a (List.mem_cons_self ..))
        have q2 := ih2 (fun x hx => h x (List.mem_cons_of_mem _ hx)) (fun x hx => h' x (List.mem_cons_of_mem _ hx))
        simp only [bigTms, szTms]; omega
    have h6 := hl l ih h5
    have h7 : ty.sz ≤ 64 := by
      split at h4
      · exact (okB_iff.1 h4).2
      · obtain ⟨kk, ll⟩ := ty
        simp [Typ.none] at h4
        rw [h4.2]; simp [Typ.sz, szTys]
    simp only [Trm.big, Trm.sz]; omega
theorem err_zero {t : Trm} (h1 : t.shape = true) (h2 : t.sz ≤ 4096) : t.err = 0 := by
  unfold Trm.err; rw [h1, if_pos rfl, if_neg (by omega)]
theorem typeOf_of {g : List Typ} {t : Trm} {u : Typ} (hg : g.length ≤ 16) (ho : ∀ a ∈ g, a.okB = true) (h : HasT g t u) (hs : t.sz ≤ 4096) : typeOf g t = (0, u) := by
  have h1 : ctxErr g = 0 := by unfold ctxErr; rw [if_neg (by simp; omega)]; exact ctxE_iff.2 ho
  have h2 := err_zero (shape_of h) hs
  simp [typeOf, typedE, h1, h2, infer_of h]
theorem mkCtx_sm (L : List Int) (a : Nat) : ∀ u ∈ (mkCtx L a).1, sm u := fun u hu => ⟨(okB_iff.1 (mkTypes_ok L _ _ u hu).1).1, (mkTypes_ok L _ _ u hu).2⟩
theorem mkType_sm (L : List Int) (a : Nat) : sm (mkType L 1 a).1 := ⟨mkType_shape L 1 a, mkType_sz1 L a⟩
theorem law_types (L : List Int) (_ : L.length ≤ 500) : putE (mkTerm L 100 3 ((mkCtx L 0).1 ++ [(mkType L 1 (mkCtx L 0).2).1]) (mkType L 1 (mkType L 1 (mkCtx L 0).2).2).1 (mkType L 1 (mkType L 1 (mkType L 1 (mkCtx L 0).2).2).2).2).1 0 (mkTerm L 100 2 (mkCtx L 0).1 (mkType L 1 (mkCtx L 0).2).1 (mkTerm L 100 3 ((mkCtx L 0).1 ++ [(mkType L 1 (mkCtx L 0).2).1]) (mkType L 1 (mkType L 1 (mkCtx L 0).2).2).1 (mkType L 1 (mkType L 1 (mkType L 1 (mkCtx L 0).2).2).2).2).2).1 = 0 ∧ typeOf (mkCtx L 0).1 ((mkTerm L 100 3 ((mkCtx L 0).1 ++ [(mkType L 1 (mkCtx L 0).2).1]) (mkType L 1 (mkType L 1 (mkCtx L 0).2).2).1 (mkType L 1 (mkType L 1 (mkType L 1 (mkCtx L 0).2).2).2).2).1.put 0 (mkTerm L 100 2 (mkCtx L 0).1 (mkType L 1 (mkCtx L 0).2).1 (mkTerm L 100 3 ((mkCtx L 0).1 ++ [(mkType L 1 (mkCtx L 0).2).1]) (mkType L 1 (mkType L 1 (mkCtx L 0).2).2).1 (mkType L 1 (mkType L 1 (mkType L 1 (mkCtx L 0).2).2).2).2).2).1) = (0, (mkType L 1 (mkType L 1 (mkCtx L 0).2).2).1) ∧ liftE (mkTerm L 100 2 (mkCtx L 0).1 (mkType L 1 (mkCtx L 0).2).1 (mkTerm L 100 3 ((mkCtx L 0).1 ++ [(mkType L 1 (mkCtx L 0).2).1]) (mkType L 1 (mkType L 1 (mkCtx L 0).2).2).1 (mkType L 1 (mkType L 1 (mkType L 1 (mkCtx L 0).2).2).2).2).2).1 0 1 = 0 ∧ typeOf ((mkCtx L 0).1 ++ [(mkType L 1 (mkType L 1 (mkType L 1 (mkCtx L 0).2).2).2).1]) ((mkTerm L 100 2 (mkCtx L 0).1 (mkType L 1 (mkCtx L 0).2).1 (mkTerm L 100 3 ((mkCtx L 0).1 ++ [(mkType L 1 (mkCtx L 0).2).1]) (mkType L 1 (mkType L 1 (mkCtx L 0).2).2).1 (mkType L 1 (mkType L 1 (mkType L 1 (mkCtx L 0).2).2).2).2).2).1.lift 0 1) = (0, (mkType L 1 (mkCtx L 0).2).1)
    ∧ ((mkTerm L 100 3 ((mkCtx L 0).1 ++ [(mkType L 1 (mkCtx L 0).2).1]) (mkType L 1 (mkType L 1 (mkCtx L 0).2).2).1 (mkType L 1 (mkType L 1 (mkType L 1 (mkCtx L 0).2).2).2).2).1.put 0 (mkTerm L 100 2 (mkCtx L 0).1 (mkType L 1 (mkCtx L 0).2).1 (mkTerm L 100 3 ((mkCtx L 0).1 ++ [(mkType L 1 (mkCtx L 0).2).1]) (mkType L 1 (mkType L 1 (mkCtx L 0).2).2).1 (mkType L 1 (mkType L 1 (mkType L 1 (mkCtx L 0).2).2).2).2).2).1).big ≤ 1000000 ∧ ((mkTerm L 100 2 (mkCtx L 0).1 (mkType L 1 (mkCtx L 0).2).1 (mkTerm L 100 3 ((mkCtx L 0).1 ++ [(mkType L 1 (mkCtx L 0).2).1]) (mkType L 1 (mkType L 1 (mkCtx L 0).2).2).1 (mkType L 1 (mkType L 1 (mkType L 1 (mkCtx L 0).2).2).2).2).2).1.lift 0 1).big ≤ 1000000 := by
  have hcl : (mkCtx L 0).1.length ≤ 3 := mkCtx_len L 0
  have hcs : ∀ u ∈ (mkCtx L 0).1, sm u := mkCtx_sm L 0
  have hso : sm (mkType L 1 (mkCtx L 0).2).1 := mkType_sm L (mkCtx L 0).2
  have huo : sm (mkType L 1 (mkType L 1 (mkCtx L 0).2).2).1 := mkType_sm L (mkType L 1 (mkCtx L 0).2).2
  have hwo : sm (mkType L 1 (mkType L 1 (mkType L 1 (mkCtx L 0).2).2).2).1 := mkType_sm L (mkType L 1 (mkType L 1 (mkCtx L 0).2).2).2
  have hfx : fuelOk 100 3 (mkType L 1 (mkType L 1 (mkCtx L 0).2).2).1 := .inr ⟨by omega, by omega⟩
  have hfy : fuelOk 100 2 (mkType L 1 (mkCtx L 0).2).1 := .inr ⟨by omega, by omega⟩
  have tx := mkTerm_typed L 100 3 ((mkCtx L 0).1 ++ [(mkType L 1 (mkCtx L 0).2).1]) (mkType L 1 (mkType L 1 (mkCtx L 0).2).2).1 (mkType L 1 (mkType L 1 (mkType L 1 (mkCtx L 0).2).2).2).2 huo (sext hcs hso) (by simp; omega) hfx
  have ty := mkTerm_typed L 100 2 (mkCtx L 0).1 (mkType L 1 (mkCtx L 0).2).1 (mkTerm L 100 3 ((mkCtx L 0).1 ++ [(mkType L 1 (mkCtx L 0).2).1]) (mkType L 1 (mkType L 1 (mkCtx L 0).2).2).1 (mkType L 1 (mkType L 1 (mkType L 1 (mkCtx L 0).2).2).2).2).2 hso hcs (by omega) hfy
  have wx := mkTerm_wt L (w := 100) (by omega) 100 3 ((mkCtx L 0).1 ++ [(mkType L 1 (mkCtx L 0).2).1]) (mkType L 1 (mkType L 1 (mkCtx L 0).2).2).1 (mkType L 1 (mkType L 1 (mkType L 1 (mkCtx L 0).2).2).2).2 huo (sext hcs hso) hfx
  have wy := mkTerm_wt L (w := 1) (by omega) 100 2 (mkCtx L 0).1 (mkType L 1 (mkCtx L 0).2).1 (mkTerm L 100 3 ((mkCtx L 0).1 ++ [(mkType L 1 (mkCtx L 0).2).1]) (mkType L 1 (mkType L 1 (mkCtx L 0).2).2).1 (mkType L 1 (mkType L 1 (mkType L 1 (mkCtx L 0).2).2).2).2).2 hso hcs hfy
  have w3 : ww 100 (Int.toNat 3) (mkType L 1 (mkType L 1 (mkCtx L 0).2).2).1 ≤ 3560 := by unfold ww; split <;> decide
  have w2 : ww 1 (Int.toNat 2) (mkType L 1 (mkCtx L 0).2).1 ≤ 76 := by unfold ww; split <;> decide
  generalize (mkTerm L 100 2 (mkCtx L 0).1 (mkType L 1 (mkCtx L 0).2).1 (mkTerm L 100 3 ((mkCtx L 0).1 ++ [(mkType L 1 (mkCtx L 0).2).1]) (mkType L 1 (mkType L 1 (mkCtx L 0).2).2).1 (mkType L 1 (mkType L 1 (mkType L 1 (mkCtx L 0).2).2).2).2).2) = y at *
  generalize (mkTerm L 100 3 ((mkCtx L 0).1 ++ [(mkType L 1 (mkCtx L 0).2).1]) (mkType L 1 (mkType L 1 (mkCtx L 0).2).2).1 (mkType L 1 (mkType L 1 (mkType L 1 (mkCtx L 0).2).2).2).2) = x at *
  generalize (mkCtx L 0).1 = c at *
  generalize (mkType L 1 (mkCtx L 0).2).1 = s at *
  generalize (mkType L 1 (mkType L 1 (mkCtx L 0).2).2).1 = u at *
  generalize (mkType L 1 (mkType L 1 (mkType L 1 (mkCtx L 0).2).2).2).1 = v at *
  have hwc : x.1.sz + x.1.cnt 0 0 * 99 ≤ x.1.wt 100 0 := wt_cnt 99 x.1 0
  have szx : x.1.sz ≤ 3560 := by omega
  have hwc2 : y.1.sz + y.1.cnt 0 0 * 0 ≤ y.1.wt 1 0 := wt_cnt 0 y.1 0
  have szy : y.1.sz ≤ 76 := by omega
  have shx := shape_of tx
  have shy := shape_of ty
  have ix := idxB_of tx (by simp; omega)
  have iy := idxB_of ty (by omega)
  have tp := put_typed ty (by omega) tx (by simp; omega)
  have tl : HasT (c ++ [v]) (y.1.lift 0 1) s := lift_typed (m := [v]) (by simp) ty (by omega)
  have sp := sz_put y.1 shy x.1 shx ix 0 (by omega)
  have hmono : x.1.wt y.1.sz 0 ≤ x.1.wt 100 0 := wt_le (by omega) x.1 0
  have szp : (x.1.put 0 y.1).sz ≤ 4096 := by
    have : (x.1.put 0 y.1).sz ≤ x.1.wt y.1.sz 0 := sp
    omega
  have szl := sz_lift shy 0 1
  have hc := count_eq 0 (by omega) shx ix (by omega)
  have ex := err_zero shx (by omega)
  have ey := err_zero shy (by omega)
  refine ⟨?_, typeOf_of (by omega) (fun a ha => sm_ok (hcs a ha)) tp szp, ?_, typeOf_of (by simp; omega) (fun a ha => sm_ok (sext hcs hwo a ha)) tl (by rw [szl]; omega), ?_, ?_⟩
  · have hn1 : x.1.near = true := by rw [near_eq]; exact ix
    have hn2 : y.1.near = true := by rw [near_eq]; exact iy
    have hyp := y.1.sz_pos
    have hcm : x.1.cnt 0 0 * (y.1.sz - 1) ≤ x.1.cnt 0 0 * 99 := Nat.mul_le_mul (Nat.le_refl _) (by omega)
    have e1 : w64 ((y.1.sz : Int) - 1) = ((y.1.sz - 1 : Nat) : Int) := by rw [w64_id (by omega) (by omega)]; omega
    have e0 : x.1.count 0 = ((x.1.cnt 0 0 : Nat) : Int) := hc.1
    have e2 : w64 (x.1.count 0 * w64 ((y.1.sz : Int) - 1)) = ((x.1.cnt 0 0 * (y.1.sz - 1) : Nat) : Int) := by
      rw [e1, e0, ← Int.natCast_mul, w64_id (by omega) (by omega)]
    have e3 : w64 ((x.1.sz : Int) + w64 (x.1.count 0 * w64 ((y.1.sz : Int) - 1))) = ((x.1.sz + x.1.cnt 0 0 * (y.1.sz - 1) : Nat) : Int) := by
      rw [e2, w64_id (by omega) (by omega)]; omega
    have hw0 : within 0 = true := by decide
    unfold putE
    rw [e3, ex, ey, hn1, hn2, hw0]
    simp only [bne_self_eq_false, Bool.false_eq_true, if_false, if_true, Bool.and_self]
    rw [if_neg (by simp; omega)]
  · have hn2 : y.1.near = true := by rw [near_eq]; exact iy
    have hw0 : within 0 = true := by decide
    have hw1 : within 1 = true := by decide
    unfold liftE
    rw [ey, hn2, hw0, hw1]; rfl
  · have := big_of_shape _ (shape_of tp); omega
  · have := big_of_shape _ (shape_of tl)
    rw [szl] at this
    omega
end Go.AM
set_option linter.unusedVariables false
set_option linter.unusedSimpArgs false
namespace Go.AM
open Go Go.RowKit

/-- All that lies in a world. -/
def allOf (W : World) : Mem := fun a => W.cell? a
theorem start_inv (W : World) (ι : Env) : Inv (Entry.of (allOf W) ι (look []) W) (allOf W) ι (look []) W where
  mem := fun _ _ h => h
  obj := fun _ _ h => by cases h
  inj := fun _ _ _ _ _ _ _ h => by cases h
  sep := fun _ _ _ _ h => by cases h
  own := fun _ _ _ _ h => by cases h
  le := fun _ _ h => h
  new := fun a v hv hn => by
    have : allOf W a = none := hn
    rw [hv] at this; cases this
  size := Nat.le_refl _
  os := rfl
  tape := rfl
  output := rfl
  frame := fun _ _ => rfl
/-- A contract without objects, for any world that holds what it reads. -/
theorem calls_of_ev {P : Program} {G : Gl} {f : FuncId} {args : List V} {ret : V} (h : Ev P G f args [] ret []) {W : World} {cargs : List Value} (hg : GOk G (allOf W)) (hr : RepVs (allOf W) (fun _ => none) args cargs) :
    Calls P f cargs.toArray W fun e W' => ∃ v M' ι', e = .returned v ∧ RepV M' ι' ret v ∧ Below W.heap.size W W' := by
  refine (h.2 (allOf W) (fun _ => none) W cargs (start_inv W _) hg hr (fun _ h => absurd rfl h)).mono ?_
  rintro e W' ⟨M', ι', v, rfl, hgr, _, hi, hv⟩
  refine ⟨v, M', ι', rfl, hv, hi.os, hi.tape, hi.output, hi.size, fun k hk => hi.frame k ?_⟩
  rintro (hb | ⟨l, o, bd, h1, _⟩)
  · exact absurd hb (by show ¬ W.heap.size ≤ k; omega)
  · cases h1
theorem mapM_at {α β : Type} {f : α → Option β} : ∀ {xs : List α} {ys : List β}, xs.mapM f = some ys → ∀ (j : Nat) (x : α), xs[j]? = some x → ∃ y, ys[j]? = some y ∧ f x = some y
  | [], ys, h, j, x, hx => by simp at hx
  | a :: xs, ys, h, j, x, hx => by
    rw [List.mapM_cons] at h
    simp only [Option.bind_eq_bind, Option.bind_eq_some_iff] at h
    obtain ⟨y, h1, zs, h2, h3⟩ := h
    injection h3 with h3; subst h3
    cases j with
    | zero => simp at hx; subst hx; exact ⟨y, rfl, h1⟩
    | succ j => simp at hx; obtain ⟨z, e1, e2⟩ := mapM_at h2 j x hx; exact ⟨z, by simpa using e1, e2⟩
/-- An array of numbers that reads as it is laid. -/
theorem arr_ints {P : Program} {H : Type} {enc : TypeId × Value → H} {w : World} {base : Nat} {spare : Nat → Bool} {held : Bool} {fuel t e n : Nat} {k : IntKind} (ht : P.underlying t = some (.array n e)) (he : P.underlying e = some (.int k)) (hc : P.cellsOf e = 1) (hct : P.cellsOf t = n)
    {cs : List Value} {ns : List Int} {p : List MemPlace} (hn : ns.length = n) (h : DataW.trod enc P w base spare held fuel t cs = some (.agg (ns.map fun i => .lit (.int k i)), p)) : cs = ns.map fun i => .int k i := by
  cases fuel with
  | zero => simp [DataW.trod] at h
  | succ fuel =>
    unfold DataW.trod at h
    rw [ht] at h
    simp only [hct, hc, Nat.mul_one] at h
    split at h
    · rename_i hlen
      simp only [Option.map_eq_some_iff] at h
      obtain ⟨ys, hys, hy⟩ := h
      have hy1 := congrArg Prod.fst hy
      simp only [DataW.agg.injEq] at hy1
      refine List.ext_getElem? fun i => ?_
      by_cases hi : i < n
      · obtain ⟨y, h1, h2⟩ := mapM_at hys i i (by simp [hi])
        obtain ⟨s, h3, h4, _⟩ := DataW.trod_int he h2
        have h5 : (cs.drop i).take 1 = [cs[i]'(by omega)] := by
          rw [List.drop_eq_getElem_cons (by omega)]; rfl
        rw [h5] at h3
        have h6 : (ys.map (·.1))[i]? = some (.lit (.int k s)) := by rw [List.getElem?_map, h1, h4]; rfl
        rw [hy1, List.getElem?_map, List.getElem?_eq_getElem (by omega)] at h6
        have h7 : ns[i]'(by omega) = s := by simpa using h6
        rw [List.getElem?_eq_getElem (by omega), List.getElem?_map, List.getElem?_eq_getElem (by omega)]
        have h8 : cs[i]'(by omega) = .int k s := by injection h3
        rw [h8, h7]; rfl
      · rw [List.getElem?_eq_none (by omega), List.getElem?_eq_none (by simp; omega)]
    · cases h
theorem row_of_cells {M : Mem} {g : Nat} {ds : List D} {vs : List Value} (h : ∀ j v, vs[j]? = some v → M ⟨g, j, none⟩ = some v) (hr : RepVs M (fun _ => none) (ds.map V.d) vs) : RepRow M ds ⟨g, 0, none⟩ :=
  RepRow.of rfl hr (fun j v hv => by
    have := h j v hv
    rw [show (Addr.add ⟨g, 0, none⟩ j) = ⟨g, j, none⟩ by unfold Addr.add; simp; intro e; exact e.symm]
    exact this)
theorem repRows_ints {M : Mem} {k : IntKind} : ∀ {zs : List Int} {ad : Addr}, ad.spot = none → (∀ i, i < zs.length → M (ad.add i) = some (.int k (zs.getD i 0))) → RepRows M (zs.map fun i => [.int k i]) ad
  | [], _, _, _ => by simp [RepRows]
  | z :: zs, ad, hs, h => by
    simp only [List.map_cons, RepRows, RepRow]
    have h0 := h 0 (by simp)
    rw [show ad.add 0 = ad by cases ad; simp only at hs; subst hs; simp [Addr.add]] at h0
    refine ⟨⟨⟨_, h0, by simp [RepD]⟩, trivial⟩, repRows_ints (add_spot hs 1) fun i hi => ?_⟩
    have := h (i + 1) (by simp; omega)
    simp only [List.length_cons, List.length_nil]
    rw [add_add hs, Nat.zero_add, Nat.add_comm]
    simpa using this
end Go.AM

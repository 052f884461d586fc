/-
  The types of terms, as the second form finds them.
-/
import Derived.Test.YtgilcibfknafiaaGreatDoorAmM
set_option linter.unusedVariables false
set_option linter.unusedSimpArgs false
namespace Go.AM
open Go Go.RowKit

theorem getD_at {α : Type} (l : List α) (d : α) {i : Nat} (h : i < l.length) : l.getD i d = l[i] := by
  rw [List.getD_eq_getElem?_getD, List.getElem?_eq_getElem h]; rfl
def Typ.zero : Typ := .mk 0 []
def Typ.nat : Typ := .mk 1 []
def Typ.list : Typ := .mk 2 []
def Typ.unit : Typ := .mk 5 []
def Typ.two (a b : Typ) : Typ := .mk 3 [a, b]
def Typ.func (a b : Typ) : Typ := .mk 4 [a, b]
def okT (t : Typ) : Int × Typ := if t.err != 0 then (4, .zero) else (0, t)
def node (k : Int) (ty : Typ) (us : List Typ) : Int × Typ :=
  if k == 2 then okT (.func ty (us.getD 0 .zero))
  else if k == 3 then (if (us.getD 0 .zero).kind != 4 || !((us.getD 0 .zero).args.getD 0 .zero).same (us.getD 1 .zero) then (7, .zero) else (0, (us.getD 0 .zero).args.getD 1 .zero))
  else if k == 4 then (0, .nat)
  else if k == 5 then (if !(us.getD 0 .zero).same .nat then (7, .zero) else (0, .nat))
  else if k == 6 then (if !(us.getD 0 .zero).same ty || !(us.getD 1 .zero).same (.func .nat (.func ty ty)) || !(us.getD 2 .zero).same .nat then (7, .zero) else (0, ty))
  else if k == 7 then (0, .list)
  else if k == 8 then (if !(us.getD 0 .zero).same .nat || !(us.getD 1 .zero).same .list then (7, .zero) else (0, .list))
  else if k == 9 then (if !(us.getD 0 .zero).same ty || !(us.getD 1 .zero).same (.func .nat (.func .list (.func ty ty))) || !(us.getD 2 .zero).same .list then (7, .zero) else (0, ty))
  else if k == 10 then okT (.two (us.getD 0 .zero) (us.getD 1 .zero))
  else if k == 11 then (if (us.getD 0 .zero).kind != 3 then (7, .zero) else (0, (us.getD 0 .zero).args.getD 0 .zero))
  else if k == 12 then (if (us.getD 0 .zero).kind != 3 then (7, .zero) else (0, (us.getD 0 .zero).args.getD 1 .zero))
  else (0, .unit)
mutual
def Trm.infer : Trm → List Typ → Int × Typ
  | .mk k i ty l, g =>
    if k == 1 then (if decide (i ≥ g.length) then (6, .zero) else (0, g.getD (g.length - 1 - i.toNat) .zero))
    else match infers l (if k == 2 then g ++ [ty] else g) with
      | (e, us) => if e != 0 then (e, .zero) else node k ty us
def infers : List Trm → List Typ → Int × List Typ
  | [], _ => (0, [])
  | a :: l, g => match a.infer g with
    | (e, u) => if e != 0 then (e, []) else match infers l g with
      | (e', us) => if e' != 0 then (e', []) else (0, u :: us)
end
theorem infers_ok {g : List Typ} : ∀ {l : List Trm}, (∀ a ∈ l, (a.infer g).1 = 0) → infers l g = (0, l.map fun a => (a.infer g).2)
  | [], _ => rfl
  | a :: l, h => by
    have h1 := h a (List.mem_cons_self ..)
    have h2 := infers_ok (l := l) (fun b hb => h b (List.mem_cons_of_mem _ hb))
    simp [infers, h1, h2]
/-- The first error. -/
theorem infers_bad {g : List Typ} : ∀ {l : List Trm} {i : Nat} {a : Trm}, l[i]? = some a → (∀ (j : Nat) b, j < i → l[j]? = some b → (b.infer g).1 = 0) → (a.infer g).1 ≠ 0 → infers l g = ((a.infer g).1, [])
  | [], i, a, h, _, _ => by simp at h
  | b :: l, 0, a, h, _, hn => by
    simp at h; subst h
    simp [infers, hn]
  | b :: l, i + 1, a, h, hp, hn => by
    have h1 := hp 0 b (by omega) rfl
    have h2 := infers_bad (l := l) (i := i) (a := a) (by simpa using h) (fun j c hj hc => hp (j + 1) c (by omega) (by simpa using hc)) hn
    simp only [infers]
    rw [h1, h2]
    simp [hn]
theorem infers_iff {g : List Typ} {l : List Trm} (h : (infers l g).1 = 0) : ∀ a ∈ l, (a.infer g).1 = 0 := by
  induction l with
  | nil => intro a ha; cases ha
  | cons b l ih =>
    simp only [infers] at h
    by_cases e : (b.infer g).1 = 0
    · by_cases e2 : (infers l g).1 = 0
      · intro a ha
        rcases List.mem_cons.1 ha with rfl | ha
        · exact e
        · exact ih e2 a ha
      · simp [e, e2] at h
    · simp [e] at h
theorem dTys_getD {us : List Typ} {i : Nat} (h : i < us.length) : (dTys us)[i]? = some (dTy (us.getD i .zero)) := by
  refine dTys_get ?_
  rw [List.getElem?_eq_getElem h, getD_at _ _ h]
theorem okB_iff {t : Typ} : t.okB = true ↔ t.shape = true ∧ t.sz ≤ 64 := by simp [Typ.okB]
theorem shape_args {t : Typ} (h : t.shape = true) (hk : t.kind = 3 ∨ t.kind = 4) : t.args.length = 2 := by
  obtain ⟨k, l⟩ := t
  simp only [Typ.shape, Bool.and_eq_true, beq_iff_eq] at h
  rcases hk with hk | hk <;> simp only [Typ.kind_mk] at hk <;> subst hk <;> simp [wantTy] at h <;> exact h.1.symm
theorem okB_arg {t : Typ} (h : t.okB = true) {i : Nat} (hi : i < t.args.length) : (t.args.getD i .zero).okB = true := by
  obtain ⟨k, l⟩ := t
  simp only [Typ.args_mk] at hi ⊢
  rw [okB_iff] at h ⊢
  rw [getD_at _ _ hi]
  obtain ⟨h1, h2⟩ := h
  simp only [Typ.shape, Bool.and_eq_true, shapeTys_iff] at h1
  have := szTys_mem (List.getElem_mem hi)
  simp only [Typ.sz] at h2
  exact ⟨h1.2 _ (List.getElem_mem hi), by omega⟩
theorem okT_ok {t : Typ} (h : (okT t).1 = 0) : (okT t).2.okB = true ∧ (okT t).2 = t := by
  unfold okT at h ⊢
  by_cases e : t.err = 0
  · have := Typ.err_ok t
    simp [e] at this ⊢
    exact this
  · simp [e] at h
theorem node_ok {k : Int} {ty : Typ} {us : List Typ} (h : (node k ty us).1 = 0) (hus : ∀ i, i < us.length → (us.getD i .zero).okB = true) (hty : typed k = true → ty.okB = true) (ha : arity k = some us.length) (h1 : k ≠ 1) : (node k ty us).2.okB = true := by
  have hn : Typ.nat.okB = true := by decide
  have hl : Typ.list.okB = true := by decide
  have hu : Typ.unit.okB = true := by decide
  have ar : ∀ {j n : Nat}, us.length = n → j < n → (us.getD j .zero).okB = true := fun h1 h2 => hus _ (by omega)
  unfold node at h ⊢
  by_cases c2 : k = 2
  · subst c2; simp at h ⊢; exact (okT_ok h).1
  by_cases c3 : k = 3
  · subst c3
    have hlen : us.length = 2 := by simpa [arity] using ha.symm
    simp only [show ((3 : Int) == 2) = false by decide, show ((3 : Int) == 3) = true by decide, if_true, Bool.false_eq_true, if_false] at h ⊢
    split at h
    · cases h
    · rename_i hc
      rw [if_neg hc]
      have h4 : (us.getD 0 .zero).kind = 4 := by simp at hc; exact hc.1
      have h0 := ar hlen (show 0 < 2 by omega)
      exact okB_arg h0 (by rw [shape_args (okB_iff.1 h0).1 (.inr h4)]; omega)
  by_cases c4 : k = 4
  · subst c4; exact hn
  by_cases c5 : k = 5
  · subst c5
    simp at h ⊢
    split at h
    · cases h
    · rename_i hc; rw [if_neg hc]; exact hn
  by_cases c6 : k = 6
  · subst c6
    simp at h ⊢
    split at h
    · cases h
    · rename_i hc; rw [if_neg hc]; exact hty rfl
  by_cases c7 : k = 7
  · subst c7; exact hl
  by_cases c8 : k = 8
  · subst c8
    simp at h ⊢
    split at h
    · cases h
    · rename_i hc; rw [if_neg hc]; exact hl
  by_cases c9 : k = 9
  · subst c9
    simp at h ⊢
    split at h
    · cases h
    · rename_i hc; rw [if_neg hc]; exact hty rfl
  by_cases c10 : k = 10
  · subst c10; simp at h ⊢; exact (okT_ok h).1
  by_cases c11 : k = 11
  · subst c11
    have hlen : us.length = 1 := by simpa [arity] using ha.symm
    have h0 := ar hlen (show 0 < 1 by omega)
    simp only [show ((11 : Int) == 2) = false by decide, show ((11 : Int) == 3) = false by decide, show ((11 : Int) == 4) = false by decide, show ((11 : Int) == 5) = false by decide, show ((11 : Int) == 6) = false by decide, show ((11 : Int) == 7) = false by decide, show ((11 : Int) == 8) = false by decide, show ((11 : Int) == 9) = false by decide, show ((11 : Int) == 10) = false by decide, show ((11 : Int) == 11) = true by decide, if_true, Bool.false_eq_true, if_false] at h ⊢
    split at h
    · cases h
    · rename_i hc; rw [if_neg hc]
      exact okB_arg h0 (by rw [shape_args (okB_iff.1 h0).1 (.inl (by simpa using hc))]; omega)
  by_cases c12 : k = 12
  · subst c12
    have hlen : us.length = 1 := by simpa [arity] using ha.symm
    have h0 := ar hlen (show 0 < 1 by omega)
    simp only [show ((12 : Int) == 2) = false by decide, show ((12 : Int) == 3) = false by decide, show ((12 : Int) == 4) = false by decide, show ((12 : Int) == 5) = false by decide, show ((12 : Int) == 6) = false by decide, show ((12 : Int) == 7) = false by decide, show ((12 : Int) == 8) = false by decide, show ((12 : Int) == 9) = false by decide, show ((12 : Int) == 10) = false by decide, show ((12 : Int) == 11) = false by decide, show ((12 : Int) == 12) = true by decide, if_true, Bool.false_eq_true, if_false] at h ⊢
    split at h
    · cases h
    · rename_i hc; rw [if_neg hc]
      exact okB_arg h0 (by rw [shape_args (okB_iff.1 h0).1 (.inl (by simpa using hc))]; omega)
  · have e : ∀ n : Int, k ≠ n → (k == n) = false := fun n hn => by simpa using hn
    simp only [e 2 c2, e 3 c3, e 4 c4, e 5 c5, e 6 c6, e 7 c7, e 8 c8, e 9 c9, e 10 c10, e 11 c11, e 12 c12, Bool.false_eq_true, if_false]
    exact hu
theorem infer_ok (t : Trm) : ∀ (g : List Typ), t.shape = true → (∀ a ∈ g, a.okB = true) → (t.infer g).1 = 0 → (t.infer g).2.okB = true := by
  induction t using Trm.ind with
  | _ k i ty l ih =>
    intro g hs hg h
    rw [Trm.shape_iff] at hs
    obtain ⟨h1, h2, h3, h4, h5⟩ := hs
    simp only [Trm.infer] at h ⊢
    by_cases c : k = 1
    · subst c
      simp only [beq_self_eq_true, if_true] at h ⊢
      split at h
      · cases h
      · rename_i hc
        rw [if_neg hc]
        have hlt : g.length - 1 - i.toNat < g.length := by simp at hc; omega
        simp only
        rw [getD_at _ _ hlt]
        exact hg _ (List.getElem_mem hlt)
    · have e1 : (k == 1) = false := by simpa using c
      simp only [e1, Bool.false_eq_true, if_false] at h ⊢
      by_cases e : (infers l (if (k == 2) = true then g ++ [ty] else g)).1 = 0
      · have hall := infers_iff e
        rw [infers_ok hall] at h ⊢
        simp only [bne_self_eq_false, Bool.false_eq_true, if_false] at h ⊢
        have hg2 : ∀ a ∈ (if (k == 2) = true then g ++ [ty] else g), a.okB = true := by
          intro a ha
          split at ha
          · rename_i hk2
            have hk2' : k = 2 := by simpa using hk2
            subst hk2'
            rcases List.mem_append.1 ha with ha | ha
            · exact hg a ha
            · simp at ha; subst ha; simpa [typed] using h4
          · exact hg a ha
        refine node_ok h (fun j hj => ?_) (fun ht => by rw [ht, if_pos rfl] at h4; exact h4) (by simpa using h1) c
        rw [List.length_map] at hj
        rw [getD_at _ _ (by simpa using hj), List.getElem_map]
        exact ih _ (List.getElem_mem hj) _ (h5 _ (List.getElem_mem hj)) hg2 (hall _ (List.getElem_mem hj))
      · have : ((infers l (if (k == 2) = true then g ++ [ty] else g)).1 != 0) = true := by simpa using e
        simp only [this, if_true] at h
        exact absurd h e
theorem getD_mem_ok {us : List Typ} (h : ∀ a ∈ us, a.okB = true) {i : Nat} (hi : i < us.length) : (us.getD i .zero).okB = true := by
  rw [getD_at _ _ hi]; exact h _ (List.getElem_mem hi)
theorem infer_node {k i : Int} {ty : Typ} {l : List Trm} {g : List Typ} (h1 : (k == 1) = false) (h2 : (k == 2) = false) (h : ∀ a ∈ l, (a.infer g).1 = 0) : (Trm.mk k i ty l).infer g = node k ty (l.map fun a => (a.infer g).2) := by
  simp only [Trm.infer, h1, h2, Bool.false_eq_true, if_false, infers_ok h]
  rfl
theorem infer_first {k i : Int} {ty : Typ} {l : List Trm} {g : List Typ} (h1 : (k == 1) = false) (h2 : (k == 2) = false) {j : Nat} {a : Trm} (hj : l[j]? = some a) (hp : ∀ (m : Nat) b, m < j → l[m]? = some b → (b.infer g).1 = 0) (hn : (a.infer g).1 ≠ 0) : (Trm.mk k i ty l).infer g = ((a.infer g).1, .zero) := by
  simp only [Trm.infer, h1, h2, Bool.false_eq_true, if_false, infers_bad hj hp hn]
  simp [hn]
/-- The error of a context. -/
def ctxE : List Typ → Int
  | [] => 0
  | a :: l => if a.err != 0 then a.err else ctxE l
theorem ctxE_bad : ∀ {l : List Typ} {i : Nat} {a : Typ}, l[i]? = some a → (∀ (j : Nat) b, j < i → l[j]? = some b → b.err = 0) → a.err ≠ 0 → ctxE l = a.err
  | [], i, a, h, _, _ => by simp at h
  | b :: l, 0, a, h, _, hn => by simp at h; subst h; simp [ctxE, hn]
  | b :: l, i + 1, a, h, hp, hn => by
    have h1 := hp 0 b (by omega) rfl
    have h2 := ctxE_bad (l := l) (i := i) (a := a) (by simpa using h) (fun j c hj hc => hp (j + 1) c (by omega) (by simpa using hc)) hn
    simp [ctxE, h1, h2]
theorem ctxE_ok {l : List Typ} (h : ∀ a ∈ l, a.err = 0) : ctxE l = 0 := by
  induction l with
  | nil => rfl
  | cons b l ih => simp [ctxE, h b (List.mem_cons_self ..), ih (fun a ha => h a (List.mem_cons_of_mem _ ha))]
theorem ctxE_iff {l : List Typ} : ctxE l = 0 ↔ ∀ a ∈ l, a.okB = true := by
  induction l with
  | nil => simp [ctxE]
  | cons b l ih =>
    have hb := Typ.err_ok b
    by_cases e : b.err = 0
    · have h1 : b.okB = true := by rw [← hb, e]; rfl
      simp [ctxE, e, ih, h1]
    · have h1 : b.okB = false := by rw [← hb]; simpa using e
      simp [ctxE, e, h1]
def ctxErr (l : List Typ) : Int := if decide ((l.length : Int) > 16) then 3 else ctxE l
def typedE (g : List Typ) (t : Trm) : Int × Typ := if t.err != 0 then (t.err, .zero) else t.infer g
def typeOf (g : List Typ) (t : Trm) : Int × Typ := if ctxErr g != 0 then (ctxErr g, .zero) else typedE g t
end Go.AM

/-
  Typing: lifting and putting keep types.
-/
import Derived.Test.YtgilcibfknafiaaGreatDoorAmQ
set_option linter.unusedVariables false
set_option linter.unusedSimpArgs false
namespace Go.AM
open Go Go.RowKit

/-- The type of a variable in a context. -/
def tyAt (g : List Typ) (i : Nat) : Typ := g.getD (g.length - 1 - i) .zero
theorem tyAt_left (g d : List Typ) {i : Nat} (h : d.length ≤ i) (h2 : i < d.length + g.length) : tyAt (g ++ d) i = tyAt g (i - d.length) := by
  unfold tyAt
  rw [List.getD_eq_getElem?_getD, List.getD_eq_getElem?_getD, List.length_append, List.getElem?_append_left (by omega)]
  congr 2; omega
theorem tyAt_right (g d : List Typ) {i : Nat} (h : i < d.length) : tyAt (g ++ d) i = tyAt d i := by
  unfold tyAt
  rw [List.getD_eq_getElem?_getD, List.getD_eq_getElem?_getD, List.length_append, List.getElem?_append_right (by omega)]
  congr 2; omega
inductive HasT : List Typ → Trm → Typ → Prop
  | var {g : List Typ} {i : Nat} : i < g.length → HasT g (.var i) (tyAt g i)
  | lam {g s b u} : s.okB = true → (Typ.func s u).okB = true → HasT (g ++ [s]) b u → HasT g (.mk 2 0 s [b]) (.func s u)
  | app {g f a s u} : HasT g f (.func s u) → HasT g a s → HasT g (tm 3 [f, a]) u
  | zero {g} : HasT g (tm 4 []) .nat
  | succ {g a} : HasT g a .nat → HasT g (tm 5 [a]) .nat
  | recu {g s a b c} : s.okB = true → HasT g a s → HasT g b (.func .nat (.func s s)) → HasT g c .nat → HasT g (.mk 6 0 s [a, b, c]) s
  | nil {g} : HasT g (tm 7 []) .list
  | cons {g a b} : HasT g a .nat → HasT g b .list → HasT g (tm 8 [a, b]) .list
  | fold {g s a b c} : s.okB = true → HasT g a s → HasT g b (.func .nat (.func .list (.func s s))) → HasT g c .list → HasT g (.mk 9 0 s [a, b, c]) s
  | pair {g a b s u} : (Typ.two s u).okB = true → HasT g a s → HasT g b u → HasT g (tm 10 [a, b]) (.two s u)
  | fst {g a s u} : HasT g a (.two s u) → HasT g (tm 11 [a]) s
  | snd {g a s u} : HasT g a (.two s u) → HasT g (tm 12 [a]) u
  | unit {g} : HasT g (tm 13 []) .unit
theorem HasT.varI {g : List Typ} {i : Nat} {u : Typ} (h : i < g.length) (hu : tyAt g i = u) : HasT g (.var i) u := by subst hu; exact .var h
theorem okT_of {t : Typ} (h : t.okB = true) : okT t = (0, t) := by
  have := Typ.err_ok t
  rw [h] at this
  have e : t.err = 0 := by simpa using this
  simp [okT, e]
theorem same_refl (t : Typ) : t.same t = true := (same_eq t t).2 rfl
theorem infer_of {g : List Typ} {t : Trm} {u : Typ} (h : HasT g t u) : t.infer g = (0, u) := by
  induction h with
  | @var g i h =>
    simp only [Trm.var, Trm.infer, beq_self_eq_true, if_true]
    rw [if_neg (by simp; omega)]
    rfl
  | lam h1 h2 h3 ih => simp [Trm.infer, infers, ih, node, okT_of h2]
  | app h1 h2 ih1 ih2 => simp [tm, Trm.infer, infers, ih1, ih2, node, Typ.func, same_refl]
  | zero => rfl
  | succ h ih => simp [tm, Trm.infer, infers, ih, node, same_refl]
  | recu h1 h2 h3 h4 i2 i3 i4 => simp [Trm.infer, infers, i2, i3, i4, node, same_refl]
  | nil => rfl
  | cons h1 h2 i1 i2 => simp [tm, Trm.infer, infers, i1, i2, node, same_refl]
  | fold h1 h2 h3 h4 i2 i3 i4 => simp [Trm.infer, infers, i2, i3, i4, node, same_refl]
  | pair h1 h2 h3 i2 i3 => simp [tm, Trm.infer, infers, i2, i3, node, okT_of h1]
  | fst h ih => simp [tm, Trm.infer, infers, ih, node, Typ.two]
  | snd h ih => simp [tm, Trm.infer, infers, ih, node, Typ.two]
  | unit => rfl
theorem none_zero : Typ.zero.none = true := rfl
theorem shape_of {g : List Typ} {t : Trm} {u : Typ} (h : HasT g t u) : t.shape = true := by
  induction h with
  | @var g i h => rw [Trm.var, Trm.shape_iff]; exact ⟨rfl, by omega, .inr rfl, rfl, fun a ha => by cases ha⟩
  | lam h1 h2 h3 ih => rw [Trm.shape_iff]; exact ⟨rfl, by omega, .inl rfl, by simpa [typed] using h1, by simpa using ih⟩
  | app h1 h2 ih1 ih2 => rw [tm, Trm.shape_iff]; exact ⟨rfl, by omega, .inl rfl, rfl, by simpa using ⟨ih1, ih2⟩⟩
  | zero => rfl
  | succ h ih => rw [tm, Trm.shape_iff]; exact ⟨rfl, by omega, .inl rfl, rfl, by simpa using ih⟩
  | recu h1 h2 h3 h4 i2 i3 i4 => rw [Trm.shape_iff]; exact ⟨rfl, by omega, .inl rfl, by simpa [typed] using h1, by simpa using ⟨i2, i3, i4⟩⟩
  | nil => rfl
  | cons h1 h2 i1 i2 => rw [tm, Trm.shape_iff]; exact ⟨rfl, by omega, .inl rfl, rfl, by simpa using ⟨i1, i2⟩⟩
  | fold h1 h2 h3 h4 i2 i3 i4 => rw [Trm.shape_iff]; exact ⟨rfl, by omega, .inl rfl, by simpa [typed] using h1, by simpa using ⟨i2, i3, i4⟩⟩
  | pair h1 h2 h3 i2 i3 => rw [tm, Trm.shape_iff]; exact ⟨rfl, by omega, .inl rfl, rfl, by simpa using ⟨i2, i3⟩⟩
  | fst h ih => rw [tm, Trm.shape_iff]; exact ⟨rfl, by omega, .inl rfl, rfl, by simpa using ih⟩
  | snd h ih => rw [tm, Trm.shape_iff]; exact ⟨rfl, by omega, .inl rfl, rfl, by simpa using ih⟩
  | unit => rfl
theorem rebuild_mk {k i : Int} {s : Typ} {l : List Trm} (h1 : (k == 1) = false) (h2 : (k == 2) = false) (f : Int → Int → Trm) (b : Int) : (Trm.mk k i s l).rebuild f b = .mk k i s (l.map (·.rebuild f b)) := by
  simp only [Trm.rebuild, h1, h2, Bool.false_eq_true, if_false, rebuilds_map]
theorem rebuild_tm {k : Int} {l : List Trm} (h1 : (k == 1) = false) (h2 : (k == 2) = false) (f : Int → Int → Trm) (b : Int) : (tm k l).rebuild f b = tm k (l.map (·.rebuild f b)) := rebuild_mk h1 h2 f b
theorem rebuild_lam {s : Typ} {t : Trm} (f : Int → Int → Trm) {b : Nat} (hb : b < 1000000000) : (Trm.mk 2 0 s [t]).rebuild f b = .mk 2 0 s [t.rebuild f ((b + 1 : Nat) : Int)] := by
  simp only [Trm.rebuild, rebuilds]
  rw [if_neg (by decide), if_pos (by decide), w64_id (by omega) (by omega)]; rfl
theorem rebuild_var (f : Int → Int → Trm) (i b : Int) : (Trm.var i).rebuild f b = f i b := rfl
theorem sz_tm1 {k i : Int} {s : Typ} (a : Trm) : (Trm.mk k i s [a]).sz = 1 + a.sz := by simp [Trm.sz, szTms]
theorem sz_tm2 {k i : Int} {s : Typ} (a b : Trm) : (Trm.mk k i s [a, b]).sz = 1 + a.sz + b.sz := by simp [Trm.sz, szTms]; omega
theorem sz_tm3 {k i : Int} {s : Typ} (a b c : Trm) : (Trm.mk k i s [a, b, c]).sz = 1 + a.sz + b.sz + c.sz := by simp [Trm.sz, szTms]; omega

/-- A rebuilding that keeps types at the variables keeps them everywhere. -/
theorem rebuild_typed {f : Int → Int → Trm} {g g' : List Typ} (hv : ∀ (d : List Typ) (i : Nat), i < (g ++ d).length → (g ++ d).length ≤ 1000000 → HasT (g' ++ d) (f i d.length) (tyAt (g ++ d) i)) {G : List Typ} {t : Trm} {u : Typ} (h : HasT G t u) :
    ∀ d, G = g ++ d → G.length + t.sz ≤ 1000000 → HasT (g' ++ d) (t.rebuild f d.length) u := by
  induction h with
  | var h => intro d e hb; subst e; rw [rebuild_var]; exact hv d _ h (by omega)
  | @lam g0 s b u h1 h2 h3 ih =>
    intro d e hb; subst e
    rw [sz_tm1] at hb
    rw [rebuild_lam _ (by simp at hb; omega)]
    refine .lam h1 h2 ?_
    have := ih (d ++ [s]) (by simp) (by simp at hb ⊢; omega)
    rw [List.append_assoc, show d.length + 1 = (d ++ [s]).length by simp]
    exact this
  | app h1 h2 i1 i2 => intro d e hb; rw [tm, sz_tm2] at hb; rw [rebuild_tm rfl rfl]; exact .app (i1 d e (by omega)) (i2 d e (by omega))
  | zero => intro d e hb; rw [rebuild_tm rfl rfl]; exact .zero
  | succ h1 i1 => intro d e hb; rw [tm, sz_tm1] at hb; rw [rebuild_tm rfl rfl]; exact .succ (i1 d e (by omega))
  | recu h1 h2 h3 h4 i2 i3 i4 => intro d e hb; rw [sz_tm3] at hb; rw [rebuild_mk rfl rfl]; exact .recu h1 (i2 d e (by omega)) (i3 d e (by omega)) (i4 d e (by omega))
  | nil => intro d e hb; rw [rebuild_tm rfl rfl]; exact .nil
  | cons h1 h2 i1 i2 => intro d e hb; rw [tm, sz_tm2] at hb; rw [rebuild_tm rfl rfl]; exact .cons (i1 d e (by omega)) (i2 d e (by omega))
  | fold h1 h2 h3 h4 i2 i3 i4 => intro d e hb; rw [sz_tm3] at hb; rw [rebuild_mk rfl rfl]; exact .fold h1 (i2 d e (by omega)) (i3 d e (by omega)) (i4 d e (by omega))
  | pair h1 h2 h3 i2 i3 => intro d e hb; rw [tm, sz_tm2] at hb; rw [rebuild_tm rfl rfl]; exact .pair h1 (i2 d e (by omega)) (i3 d e (by omega))
  | fst h1 i1 => intro d e hb; rw [tm, sz_tm1] at hb; rw [rebuild_tm rfl rfl]; exact .fst (i1 d e (by omega))
  | snd h1 i1 => intro d e hb; rw [tm, sz_tm1] at hb; rw [rebuild_tm rfl rfl]; exact .snd (i1 d e (by omega))
  | unit => intro d e hb; rw [rebuild_tm rfl rfl]; exact .unit
theorem lift_typed {g m : List Typ} (hm : m.length ≤ 1000000) {t : Trm} {u : Typ} (h : HasT g t u) (hb : g.length + t.sz ≤ 1000000) : HasT (g ++ m) (t.lift 0 m.length) u := by
  have := rebuild_typed (f := liftAt 0 m.length) (g := g) (g' := g ++ m) (fun d i hi hl => ?_) h [] (by simp) hb
  · simpa [Trm.lift] using this
  · rw [List.length_append] at hi hl
    unfold liftAt
    rw [w64_id (x := (i : Int) - d.length) (by omega) (by omega), w64_id (x := (i : Int) + m.length) (by omega) (by omega)]
    by_cases hc : d.length ≤ i
    · rw [if_pos (by simp; omega), show ((i : Int) + m.length) = ((i + m.length : Nat) : Int) by omega]
      refine .varI (by simp; omega) ?_
      rw [tyAt_left _ _ hc (by omega), tyAt_left _ _ (by omega) (by simp; omega), tyAt_left _ _ (by omega) (by omega)]
      congr 1; omega
    · rw [if_neg (by simp; omega)]
      refine .varI (by simp; omega) ?_
      rw [tyAt_right _ _ (by omega), tyAt_right _ _ (by omega)]
theorem put_typed {g : List Typ} {s : Typ} {y t : Trm} {u : Typ} (hy : HasT g y s) (hyb : g.length + y.sz ≤ 1000000) (h : HasT (g ++ [s]) t u) (hb : (g ++ [s]).length + t.sz ≤ 1000000) : HasT g (t.put 0 y) u := by
  have := rebuild_typed (f := putAt 0 y) (g := g ++ [s]) (g' := g) (fun d i hi hl => ?_) h [] (by simp) hb
  · simpa [Trm.put] using this
  · rw [List.length_append] at hi hl
    simp only [List.length_append, List.length_cons, List.length_nil] at hi hl
    unfold putAt
    rw [w64_id (x := (i : Int) - d.length) (by omega) (by omega), w64_id (x := 0 + (d.length : Int)) (by omega) (by omega), w64_id (x := (i : Int) - 1) (by omega) (by omega)]
    by_cases h1 : i = d.length
    · rw [if_pos (by simp; omega), Int.zero_add]
      have e : tyAt (g ++ [s] ++ d) i = s := by
        rw [tyAt_left _ _ (by omega) (by simp; omega), show i - d.length = 0 by omega, tyAt_right _ _ (by simp)]; rfl
      rw [e]
      exact lift_typed (by omega) hy hyb
    · rw [if_neg (by simp; omega)]
      by_cases h2 : d.length < i
      · rw [if_pos (by simp; omega), show ((i : Int) - 1) = ((i - 1 : Nat) : Int) by omega]
        refine .varI (by simp; omega) ?_
        rw [tyAt_left _ _ (by omega) (by omega), List.append_assoc, tyAt_left _ _ (by simp; omega) (by simp; omega)]
        congr 1; simp; omega
      · rw [if_neg (by simp; omega)]
        refine .varI (by simp; omega) ?_
        rw [tyAt_right _ _ (by omega), tyAt_right _ _ (by omega)]
end Go.AM

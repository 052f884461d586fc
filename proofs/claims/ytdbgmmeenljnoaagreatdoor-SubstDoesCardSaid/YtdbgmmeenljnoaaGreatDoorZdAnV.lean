/-
  What the printed functions reckon: terms that are made.
-/
import Derived.Test.YtdbgmmeenljnoaaGreatDoorZdAnT
set_option linter.unusedVariables false
set_option linter.unusedSimpArgs false
set_option maxHeartbeats 4000000
namespace Go.AM
open Go
abbrev en2 (p : Trm × Nat) : Option (Trm × Int) := some (p.1, ((p.2 : Nat) : Int))
structure SOk (L : List Int) (dep : Int) (g : List Typ) (t : Typ) (sf : List Typ → Typ → Int → S_make_Deck → Option (Trm × Int)) (R : Mk) : Prop where
  s : ∀ g' t' a', t'.okB = true → (∀ u ∈ g', u.okB = true) → g'.length ≤ g.length + 3 → (0 < dep ∨ t'.sz < t.sz) → sf g' t' (w64 (dep - 1)) (Dk L a') = en2 (R g' t' a')
  b : ∀ g' t' a', t'.okB = true → (∀ u ∈ g', u.okB = true) → g'.length ≤ g.length + 3 → (0 < dep ∨ t'.sz < t.sz) → (R g' t' a').1.big ≤ 70000
theorem big1 (x : Trm) : bigTms [x] = x.big := by simp [bigTms]
theorem big2 (x y : Trm) : bigTms [x, y] = x.big + y.big := by simp [bigTms]
theorem big3 (x y z : Trm) : bigTms [x, y, z] = x.big + y.big + z.big := by simp [bigTms]; omega
theorem ok_sz {t : Typ} (h : t.okB = true) : t.sz ≤ 1000000 := by have := (okB_iff.1 h).2; omega
theorem num3Eq (L : List Int) (a : Nat) : make_Num (next L 3 a).1 = some (num (next L 3 a).1.toNat) := by
  have := next_range L a (n := 3) (by omega) (by omega)
  exact numEq this.1 (by omega)
theorem num3_big (L : List Int) (a : Nat) : (num (next L 3 a).1.toNat).big ≤ 10 := by
  have := next_range L a (n := 3) (by omega) (by omega)
  rw [num_big]; omega
section
variable {L : List Int} {dep : Int} {g : List Typ} {t : Typ} {self : List Typ → Typ → Int → S_make_Deck → Option (Trm × Int)} {R : Mk}
theorem k3Eq (hL : L.length ≤ 500) (at0 : Int) (a : Nat) : make_Term_02b_k3 ⟨L, at0⟩ (a : Int) = en2 (num (next L 3 a).1.toNat, (next L 3 a).2) := by
  unfold make_Term_02b_k3
  simp only [nextEq hL (n := 3) (by omega) a, bnd_some, num3Eq L a]
theorem flatEq (hL : L.length ≤ 500) (ht : t.okB = true) (hg : ∀ u ∈ g, u.okB = true) (hgl : g.length ≤ 900000) (hs : SOk L dep g t self R) (at0 : Int) (a : Nat) :
    make_Term_02b_k2 self g t dep ⟨L, at0⟩ (a : Int) = en2 (flatBody L R (decide (dep > 0)) g t a) := by
  unfold make_Term_02b_k2 flatBody
  cases hk1 : t.kind == 1 with
  | true =>
    rw [cond_true]
    cases hd : decide (dep > 0) with
    | false => simp only [cond_false, k3Eq hL, if_true, Bool.false_eq_true, if_false]
    | true =>
      have hd' : 0 < dep := of_decide_eq_true hd
      simp only [cond_true, if_true, nextEq hL (n := 5) (by omega) a, bnd_some]
      generalize next L 5 a = c
      have s1 := hs.s g t c.2 ht hg (by omega) (.inl hd')
      have b1 := hs.b g t c.2 ht hg (by omega) (.inl hd')
      have s2 := hs.s g t (R g t c.2).2 ht hg (by omega) (.inl hd')
      have b2 := hs.b g t (R g t c.2).2 ht hg (by omega) (.inl hd')
      have n1 := nodeN 5 [(R g t c.2).1] (by rw [big1]; omega)
      have a1 := appEq2 plusT (R g t c.2).1 (R g t (R g t c.2).2).1 (by (have : plusT.big ≤ 100 := by decide); omega)
      have a2 := appEq2 subT (R g t c.2).1 (R g t (R g t c.2).2).1 (by (have : subT.big ≤ 100 := by decide); omega)
      simp only [s1, s2, bnd_some, n1, plusEq, subEq, a1, a2, k3Eq hL]
      cases c.1 == 0 <;> cases c.1 == 1 <;> cases c.1 == 2 <;> rfl
  | false =>
    rw [cond_false]
    simp only [Bool.false_eq_true, if_false]
    cases hk2 : t.kind == 2 with
    | true =>
      rw [cond_true]
      simp only [if_true]
      cases hd : decide (dep > 0) with
      | false => simp only [cond_false, nodeN 7 [] (by simp [bigTms]), bnd_some, Bool.false_eq_true, if_false]
      | true =>
        have hd' : 0 < dep := of_decide_eq_true hd
        simp only [cond_true, if_true, nextEq hL (n := 2) (by omega) a, bnd_some, nodeN 7 [] (by simp [bigTms])]
        generalize next L 2 a = c
        have s1 := hs.s g .nat c.2 (by rfl) hg (by omega) (.inl hd')
        have b1 := hs.b g .nat c.2 (by rfl) hg (by omega) (.inl hd')
        have s2 := hs.s g t (R g .nat c.2).2 ht hg (by omega) (.inl hd')
        have b2 := hs.b g t (R g .nat c.2).2 ht hg (by omega) (.inl hd')
        have n1 := nodeN 8 [(R g .nat c.2).1, (R g t (R g .nat c.2).2).1] (by rw [big2]; omega)
        have en : ref01_Nat () = some .nat := rfl
        simp only [en, bnd_some, s1, s2, n1]
        cases c.1 == 0 <;> rfl
    | false =>
      rw [cond_false]
      simp only [Bool.false_eq_true, if_false]
      cases hk3 : t.kind == 3 with
      | true =>
        have hk : t.kind = 3 := by simpa using hk3
        obtain ⟨x, y, e, hx, hy, hz, e0, e1⟩ := two_args ht (.inl hk)
        have ea : t.args = [x, y] := by rw [e]; rfl
        have xs := x.sz_pos
        have ys := y.sz_pos
        have s1 := hs.s g x a hx hg (by omega) (.inr (by omega))
        have b1 := hs.b g x a hx hg (by omega) (.inr (by omega))
        have s2 := hs.s g y (R g x a).2 hy hg (by omega) (.inr (by omega))
        have b2 := hs.b g y (R g x a).2 hy hg (by omega) (.inr (by omega))
        have n1 := nodeN 10 [(R g x a).1, (R g y (R g x a).2).1] (by rw [big2]; omega)
        have i0 : ∀ (k : Typ → Option (Trm × Int)), idx t.args 0 k = k x := fun k => by rw [ea]; rfl
        have i1 : ∀ (k : Typ → Option (Trm × Int)), idx t.args 1 k = k y := fun k => by rw [ea]; rfl
        rw [cond_true]
        simp only [if_true, e0, e1, i0, i1, s1, s2, bnd_some, n1]
      | false =>
        rw [cond_false]
        simp only [Bool.false_eq_true, if_false]
        cases hk4 : t.kind == 4 with
        | true =>
          have hk : t.kind = 4 := by simpa using hk4
          obtain ⟨x, y, e, hx, hy, hz, e0, e1⟩ := two_args ht (.inr hk)
          have ea : t.args = [x, y] := by rw [e]; rfl
          have xs := x.sz_pos
          have s1 := hs.s (g ++ [x]) y a hy (ext hg hx) (by simp) (.inr (by omega))
          have b1 := hs.b (g ++ [x]) y a hy (ext hg hx) (by simp) (.inr (by omega))
          have n1 := nodeT 2 x [(R (g ++ [x]) y a).1] (by rw [big1]; omega) (ok_sz hx)
          have l1 := longerEq g [x] (by simp; omega)
          have i0 : ∀ (k : Typ → Option (Trm × Int)), idx t.args 0 k = k x := fun k => by rw [ea]; rfl
          have i1 : ∀ (k : Typ → Option (Trm × Int)), idx t.args 1 k = k y := fun k => by rw [ea]; rfl
          rw [cond_true]
          simp only [if_true, e0, e1, i0, i1, l1, s1, bnd_some, n1]
        | false =>
          rw [cond_false]
          simp only [Bool.false_eq_true, if_false, nodeN 13 [] (by simp [bigTms]), bnd_some]
theorem fun_loop {K2 : Option (Trm × Int)} (hg : ∀ u ∈ g, u.okB = true) (hgl : g.length ≤ 900000) (hd : 0 < dep) (hs : SOk L dep g t self R) (b : Nat) : ∀ (l : List Typ) (i : Nat), i + l.length = g.length →
    loopL (fun (_ : Unit) => K2) (fun k104 i105 (a103 : Typ) (_ : Unit) => idx g (w64 ((w64 (((g.length : Nat) : Int) - 1)) - (i105 : Int))) fun a127 => cond (a127.kind == 4) (idx a127.args 1 fun a131 => bnd (ref01_Same a131 t) fun r134 => cond r134 (bnd (ref02_Var (i105 : Int)) fun r137 => idx a127.args 0 fun a139 => bnd (self g a139 (w64 (dep - 1)) (S_make_Deck.mk L (b : Int))) fun r142 => bnd (ref02_N 3 [r137, r142.1]) fun r144 => some (r144, r142.2)) (k104 ())) (k104 ())) i l () =
      match (List.range' i l.length).find? (funB g t) with
      | some j => en2 (tm 3 [.var j, (R g ((g.getD (g.length - 1 - j) .zero).args.getD 0 .zero) b).1], (R g ((g.getD (g.length - 1 - j) .zero).args.getD 0 .zero) b).2)
      | none => K2
  | [], i, _ => rfl
  | a :: l, i, hi => by
    simp only [List.length_cons] at hi
    have ih := fun_loop (K2 := K2) hg hgl hd hs b l (i + 1) (by omega)
    rw [loopL_cons, rev_idx (by omega) (by omega), ih]
    simp only [List.length_cons, List.range'_succ, List.find?_cons]
    have hm : g.getD (g.length - 1 - i) .zero ∈ g := List.mem_of_getElem? (getD_rev g i (by omega))
    have hok := hg _ hm
    have hf : funB g t i = ((g.getD (g.length - 1 - i) .zero).kind == 4 && ((g.getD (g.length - 1 - i) .zero).args.getD 1 .zero).same t) := rfl
    rw [hf]
    generalize hu : g.getD (g.length - 1 - i) .zero = u at *
    cases hk4 : u.kind == 4 with
    | false => rfl
    | true =>
      obtain ⟨x, y, e, hx, hy, hz, e0, e1⟩ := two_args hok (.inr (by simpa using hk4))
      have ea : u.args = [x, y] := by rw [e]; rfl
      have i0 : ∀ (k : Typ → Option (Trm × Int)), idx u.args 0 k = k x := fun k => by rw [ea]; rfl
      have i1 : ∀ (k : Typ → Option (Trm × Int)), idx u.args 1 k = k y := fun k => by rw [ea]; rfl
      rw [cond_true, i1, bnd_eq (sameTyEq y t (ok_sz hy)), e1, Bool.true_and]
      cases y.same t with
      | false => rfl
      | true =>
        have s1 := hs.s g x b hx hg (by omega) (.inl hd)
        have b1 := hs.b g x b hx hg (by omega) (.inl hd)
        have n1 := nodeN 3 [.var (i : Int), (R g x b).1] (by rw [big2]; (have : (Trm.var (i : Int)).big = 2 := by simp [Trm.var, Trm.big, Typ.sz, szTys, bigTms]); omega)
        have v1 : ref02_Var (i : Int) = some (.var (i : Int)) := rfl
        simp only [cond_true, v1, bnd_some, i0, s1, n1, hu, e0]
theorem deepEq (hL : L.length ≤ 500) (ht : t.okB = true) (hg : ∀ u ∈ g, u.okB = true) (hgl : g.length ≤ 900000) (hs : SOk L dep g t self R) (at0 : Int) (a : Nat) :
    make_Term_02b_k1 self g t dep ⟨L, at0⟩ (a : Int) = en2 ((if decide (dep > 0) then deepBody L R g t (next L 8 a).1 (next L 8 a).2 else none).getD (flatBody L R (decide (dep > 0)) g t (if decide (dep > 0) then (next L 8 a).2 else a))) := by
  unfold make_Term_02b_k1
  have hflat := flatEq hL ht hg hgl hs
  cases hd : decide (dep > 0) with
  | false =>
    rw [hd] at hflat
    simp only [cond_false, hflat]; rfl
  | true =>
    have hd' : 0 < dep := of_decide_eq_true hd
    rw [hd] at hflat
    simp only [cond_true, if_true, nextEq hL (n := 8) (by omega) a, bnd_some]
    generalize next L 8 a = c
    unfold deepBody
    have tsz := ok_sz ht
    cases h0 : c.1 == 0 with
    | true =>
      have ty := typeEq hL 0 (by omega) c.2
      have tok := mkType_ok0 L c.2
      generalize mkType L 0 c.2 = s at *
      have s1 := hs.s (g ++ [s.1]) t s.2 ht (ext hg tok) (by simp) (.inl hd')
      have b1 := hs.b (g ++ [s.1]) t s.2 ht (ext hg tok) (by simp) (.inl hd')
      have s2 := hs.s g s.1 (R (g ++ [s.1]) t s.2).2 tok hg (by omega) (.inl hd')
      have b2 := hs.b g s.1 (R (g ++ [s.1]) t s.2).2 tok hg (by omega) (.inl hd')
      have l1 := longerEq g [s.1] (by simp; omega)
      have n1 := nodeT 2 s.1 [(R (g ++ [s.1]) t s.2).1] (by rw [big1]; omega) (ok_sz tok)
      have n2 := nodeN 3 [.mk 2 0 s.1 [(R (g ++ [s.1]) t s.2).1], (R g s.1 (R (g ++ [s.1]) t s.2).2).1] (by rw [big2, Trm.big_mk, big1]; have := (okB_iff.1 tok).2; omega)
      rw [show ((0 : Nat) : Int) = 0 from rfl] at ty
      simp only [cond_true, if_true, ty, bnd_some, l1, s1, n1, s2, n2, Option.getD_some]
    | false =>
    simp only [cond_false, Bool.false_eq_true, if_false]
    cases h1 : c.1 == 1 with
    | true =>
      have ty := typeEq hL 0 (by omega) c.2
      have tok := mkType_ok0 L c.2
      generalize mkType L 0 c.2 = s at *
      have s1 := hs.s g t s.2 ht hg (by omega) (.inl hd')
      have b1 := hs.b g t s.2 ht hg (by omega) (.inl hd')
      have s2 := hs.s g s.1 (R g t s.2).2 tok hg (by omega) (.inl hd')
      have b2 := hs.b g s.1 (R g t s.2).2 tok hg (by omega) (.inl hd')
      have n1 := nodeN 10 [(R g t s.2).1, (R g s.1 (R g t s.2).2).1] (by rw [big2]; omega)
      have n2 := nodeN 11 [tm 10 [(R g t s.2).1, (R g s.1 (R g t s.2).2).1]] (by rw [big1, tm, Trm.big_mk, big2]; (have : Typ.zero.sz = 1 := rfl); omega)
      rw [show ((0 : Nat) : Int) = 0 from rfl] at ty
      simp only [cond_true, if_true, ty, bnd_some, s1, n1, s2, n2, Option.getD_some]
    | false =>
    simp only [cond_false, Bool.false_eq_true, if_false]
    have enat : ref01_Nat () = some .nat := rfl
    have elist : ref01_List () = some .list := rfl
    have nok : Typ.nat.okB = true := rfl
    have lok : Typ.list.okB = true := rfl
    have nsz : Typ.nat.sz = 1 := rfl
    have lsz : Typ.list.sz = 1 := rfl
    cases h2 : c.1 == 2 with
    | true =>
      have s1 := hs.s (g ++ [.nat, t]) t c.2 ht (ext2 hg nok ht) (by simp) (.inl hd')
      have b1 := hs.b (g ++ [.nat, t]) t c.2 ht (ext2 hg nok ht) (by simp) (.inl hd')
      have l1 := longerEq g [.nat, t] (by simp; omega)
      generalize R (g ++ [.nat, t]) t c.2 = x at *
      have s2 := hs.s g t x.2 ht hg (by omega) (.inl hd')
      have b2 := hs.b g t x.2 ht hg (by omega) (.inl hd')
      generalize R g t x.2 = y at *
      have q3 := num3_big L y.2
      have e3 := num3Eq L y.2
      have d3 := nextEq hL (n := 3) (by omega) y.2
      generalize next L 3 y.2 = z at *
      have n1 := nodeT 2 t [x.1] (by rw [big1]; omega) tsz
      have tz := (okB_iff.1 ht).2
      have n2 := nodeT 2 .nat [.mk 2 0 t [x.1]] (by rw [big1, Trm.big_mk, big1]; omega) (by omega)
      have n3 := nodeT 6 t [y.1, .mk 2 0 .nat [.mk 2 0 t [x.1]], num z.1.toNat] (by rw [big3, Trm.big_mk, big1, Trm.big_mk, big1]; omega) tsz
      simp only [cond_true, if_true, enat, bnd_some, l1, s1, n1, n2, s2, d3, e3, n3, Option.getD_some]
    | false =>
    simp only [cond_false, Bool.false_eq_true, if_false]
    cases h3 : c.1 == 3 with
    | true =>
      have s1 := hs.s (g ++ [.nat, .list, t]) t c.2 ht (ext3 hg nok lok ht) (by simp) (.inl hd')
      have b1 := hs.b (g ++ [.nat, .list, t]) t c.2 ht (ext3 hg nok lok ht) (by simp) (.inl hd')
      have l1 := longerEq g [.nat, .list, t] (by simp; omega)
      generalize R (g ++ [.nat, .list, t]) t c.2 = x at *
      have s2 := hs.s g t x.2 ht hg (by omega) (.inl hd')
      have b2 := hs.b g t x.2 ht hg (by omega) (.inl hd')
      generalize R g t x.2 = y at *
      have s3 := hs.s g .list y.2 lok hg (by omega) (.inl hd')
      have b3 := hs.b g .list y.2 lok hg (by omega) (.inl hd')
      generalize R g .list y.2 = z at *
      have tz := (okB_iff.1 ht).2
      have n1 := nodeT 2 t [x.1] (by rw [big1]; omega) tsz
      have n2 := nodeT 2 .list [.mk 2 0 t [x.1]] (by rw [big1, Trm.big_mk, big1]; omega) (by omega)
      have n3 := nodeT 2 .nat [.mk 2 0 .list [.mk 2 0 t [x.1]]] (by rw [big1, Trm.big_mk, big1, Trm.big_mk, big1]; omega) (by omega)
      have n4 := nodeT 9 t [y.1, .mk 2 0 .nat [.mk 2 0 .list [.mk 2 0 t [x.1]]], z.1] (by rw [big3, Trm.big_mk, big1, Trm.big_mk, big1, Trm.big_mk, big1]; omega) tsz
      simp only [cond_true, if_true, enat, elist, bnd_some, l1, s1, n1, n2, n3, s2, s3, n4, Option.getD_some]
    | false =>
    simp only [cond_false, Bool.false_eq_true, if_false]
    cases h4 : c.1 == 4 with
    | true =>
      have ty := typeEq hL 0 (by omega) c.2
      have tok := mkType_ok0 L c.2
      generalize mkType L 0 c.2 = s at *
      have s1 := hs.s g s.1 s.2 tok hg (by omega) (.inl hd')
      have b1 := hs.b g s.1 s.2 tok hg (by omega) (.inl hd')
      have s2 := hs.s g t (R g s.1 s.2).2 ht hg (by omega) (.inl hd')
      have b2 := hs.b g t (R g s.1 s.2).2 ht hg (by omega) (.inl hd')
      have n1 := nodeN 10 [(R g s.1 s.2).1, (R g t (R g s.1 s.2).2).1] (by rw [big2]; omega)
      have n2 := nodeN 12 [tm 10 [(R g s.1 s.2).1, (R g t (R g s.1 s.2).2).1]] (by rw [big1, tm, Trm.big_mk, big2]; (have : Typ.zero.sz = 1 := rfl); omega)
      rw [show ((0 : Nat) : Int) = 0 from rfl] at ty
      simp only [cond_true, if_true, ty, bnd_some, s1, n1, s2, n2, Option.getD_some]
    | false =>
    simp only [cond_false, Bool.false_eq_true, if_false]
    cases h5 : c.1 == 5 with
    | true =>
      rw [cond_true]
      refine (fun_loop (K2 := make_Term_02b_k2 self g t dep ⟨L, at0⟩ c.2) hg hgl hd' hs c.2 g 0 (by omega)).trans ?_
      rw [← List.range_eq_range']
      unfold mkFun
      cases (List.range g.length).find? (funB g t) with
      | some j => simp only [if_true, Option.getD_some]
      | none => simp only [if_true, Option.getD_none, hflat]
    | false =>
      simp only [cond_false, Bool.false_eq_true, if_false, Option.getD_none, hflat]
theorem termEq_m (hL : L.length ≤ 500) : ∀ (n m : Nat) (dep : Int) (g : List Typ) (t : Typ) (a : Nat), t.okB = true → (∀ u ∈ g, u.okB = true) → g.length + 3 * n ≤ 900000 → -1000 ≤ dep → dep ≤ 3 → dep - n ≥ -1000 → fuelOk n dep t → n ≤ m →
    make_Term_02b_m m g t dep (Dk L a) = en2 (mkTerm L n dep g t a) := by
  intro n
  induction n with
  | zero =>
    intro m dep g t a ht hg hgl hd0 hd1 hd2 hf hm
    exfalso
    have := t.sz_pos
    rcases hf with ⟨_, h⟩ | ⟨h1, h2⟩ <;> omega
  | succ n ih =>
    intro m dep g t a ht hg hgl hd0 hd1 hd2 hf hm
    cases m with
    | zero => omega
    | succ m =>
      have ew : w64 (dep - 1) = dep - 1 := w64_id (by omega) (by omega)
      have hs : SOk L dep g t (fun g t d o => make_Term_02b_m m g t d o) (mkTerm L n (dep - 1)) := by
        refine ⟨fun g' t' a' ht' hg' hl hdec => ?_, fun g' t' a' ht' hg' hl hdec => ?_⟩
        · show make_Term_02b_m m g' t' (w64 (dep - 1)) (Dk L a') = _
          rw [ew]
          exact ih m (dep - 1) g' t' a' ht' hg' (by omega) (by omega) (by omega) (by omega) (fuel_step hf (okB_iff.1 ht').2 hdec) (by omega)
        · have := mkTerm_64k L n (dep - 1) g' t' a' ht' hg' (fuel_step hf (okB_iff.1 ht').2 hdec) (by omega)
          omega
      show make_Term_02b_b (fun g t d o => make_Term_02b_m m g t d o) g t dep (Dk L a) = _
      unfold make_Term_02b_b
      have hdeep := deepEq hL ht hg (by omega) hs
      rw [bnd_eq (varsEq g t (by omega) (fun u hu => ok_sz (hg u hu)))]
      show cond (decide ((((mkVars g t).length : Nat) : Int) > 0)) _ _ = en2 (termBody L (mkTerm L n (dep - 1)) (decide (dep > 0)) g t a)
      unfold termBody draw3
      cases hv : decide ((((mkVars g t).length : Nat) : Int) > 0) with
      | false => simp only [cond_false, Bool.false_eq_true, if_false, Bool.false_and]; exact hdeep _ a
      | true =>
        have hv' : (((mkVars g t).length : Nat) : Int) > 0 := of_decide_eq_true hv
        simp only [cond_true, if_true, Bool.true_and]
        rw [bnd_eq (nextEq hL (by omega) a)]
        cases hc : decide ((next L 3 a).1 > 0) with
        | false => simp only [cond_false, Bool.false_eq_true, if_false]; exact hdeep _ _
        | true =>
          simp only [cond_true, if_true]
          rw [bnd_eq (nextEq hL (by omega) _)]
          have hvl : (mkVars g t).length ≤ g.length := by
            unfold mkVars; rw [List.length_map]
            exact Nat.le_trans (List.length_filter_le _ _) (by simp)
          have hr := next_range L (next L 3 a).2 (n := (mkVars g t).length) (by omega) (by omega)
          have hlt : (next L (mkVars g t).length (next L 3 a).2).1.toNat < (mkVars g t).length := by omega
          dsimp only
          rw [idx_int hr.1 (List.getElem?_eq_getElem hlt)]
          simp [ref02_Var, bnd_some, Trm.var, List.getD_eq_getElem?_getD, List.getElem?_eq_getElem hlt]
end
theorem termEq {L : List Int} (hL : L.length ≤ 500) (dep : Nat) (hd : dep ≤ 3) (g : List Typ) (t : Typ) (a : Nat) (ht : t.okB = true) (hg : ∀ u ∈ g, u.okB = true) (hgl : g.length ≤ 1000) (hf : fuelOk 100 dep t) :
    make_Term_02b g t dep (Dk L a) = en2 (mkTerm L 100 dep g t a) :=
  termEq_m hL 100 FU dep g t a ht hg (by omega) (by omega) (by omega) (by omega) hf (by unfold FU; omega)
end Go.AM

/-
  What is made out of a list of numbers: types, contexts and terms.
  Typing: lifting and putting keep types.
-/
import Derived.Test.YtdbgmmeenljnoaaGreatDoorAmM
set_option linter.unusedVariables false
set_option linter.unusedSimpArgs false
namespace Go.AM
open Go Go.RowKit

def md (x n : Int) : Int := (w64 (x.tmod n + n)).tmod n
theorem md_range {x n : Int} (h1 : 1 ≤ n) (h2 : n ≤ 2147483648) : 0 ≤ md x n ∧ md x n < n := by
  have a1 : x.tmod n < n := Int.tmod_lt_of_pos x (by omega)
  have a2 : -n < x.tmod n := by
    have := Int.tmod_lt_of_pos (-x) (show 0 < n by omega)
    rw [Int.neg_tmod] at this; omega
  unfold md
  rw [w64_id (by omega) (by omega)]
  have h3 : 0 ≤ x.tmod n + n := by omega
  rw [Int.tmod_eq_emod_of_nonneg h3]
  exact ⟨Int.emod_nonneg _ (by omega), Int.emod_lt_of_pos _ (by omega)⟩
/-- The next choice, and the place after it. -/
def next (L : List Int) (n : Int) (a : Nat) : Int × Nat := if decide (n < 1) || decide ((a : Int) ≥ L.length) then (0, a) else (md (L.getD a 0) n, a + 1)
theorem next_range (L : List Int) {n : Int} (a : Nat) (h1 : 1 ≤ n) (h2 : n ≤ 2147483648) : 0 ≤ (next L n a).1 ∧ (next L n a).1 < n := by
  unfold next
  split
  · exact ⟨Int.le_refl _, by omega⟩
  · exact md_range h1 h2
theorem next_at (L : List Int) (n : Int) {a : Nat} (h : a ≤ L.length) : (next L n a).2 ≤ L.length := by
  unfold next
  split
  · exact h
  · rename_i hc; simp at hc; simp only; omega
def mkType (L : List Int) : Nat → Nat → Typ × Nat
  | 0, a => (if (next L 7 a).1 == 3 then .list else if (next L 7 a).1 == 4 then .unit else .nat, (next L 7 a).2)
  | d + 1, a =>
    if (next L 7 a).1 == 3 then (.list, (next L 7 a).2) else if (next L 7 a).1 == 4 then (.unit, (next L 7 a).2)
    else if (next L 7 a).1 == 5 then (.two (mkType L d (next L 7 a).2).1 (mkType L d (mkType L d (next L 7 a).2).2).1, (mkType L d (mkType L d (next L 7 a).2).2).2)
    else if (next L 7 a).1 == 6 then (.func (mkType L d (next L 7 a).2).1 (mkType L d (mkType L d (next L 7 a).2).2).1, (mkType L d (mkType L d (next L 7 a).2).2).2)
    else (.nat, (next L 7 a).2)
theorem mkType_at (L : List Int) : ∀ (d : Nat) {a : Nat}, a ≤ L.length → (mkType L d a).2 ≤ L.length
  | 0, a, h => next_at L 7 h
  | d + 1, a, h => by
    have h1 := next_at L 7 h
    have h2 := mkType_at L d (mkType_at L d h1)
    unfold mkType
    repeat' (split)
    all_goals first | exact h1 | exact h2
theorem mkType_shape (L : List Int) : ∀ (d a : Nat), (mkType L d a).1.shape = true
  | 0, a => by
    unfold mkType
    simp only
    split
    · rfl
    · split <;> rfl
  | d + 1, a => by
    have h1 := mkType_shape L d (next L 7 a).2
    have h2 := mkType_shape L d (mkType L d (next L 7 a).2).2
    unfold mkType
    split
    · rfl
    · split
      · rfl
      · split
        · simp [Typ.two, Typ.shape, shapeTys, wantTy, h1, h2]
        · split
          · simp [Typ.func, Typ.shape, shapeTys, wantTy, h1, h2]
          · rfl
theorem mkType_sz0 (L : List Int) (a : Nat) : (mkType L 0 a).1.sz = 1 := by
  unfold mkType
  simp only
  split
  · rfl
  · split <;> rfl
theorem mkType_sz1 (L : List Int) (a : Nat) : (mkType L 1 a).1.sz ≤ 3 := by
  unfold mkType
  split
  · simp [Typ.list, Typ.sz, szTys]
  · split
    · simp [Typ.unit, Typ.sz, szTys]
    · split
      · simp [Typ.two, Typ.sz, szTys, mkType_sz0]
      · split
        · simp [Typ.func, Typ.sz, szTys, mkType_sz0]
        · simp [Typ.nat, Typ.sz, szTys]
theorem mkType_ok0 (L : List Int) (a : Nat) : (mkType L 0 a).1.okB = true := okB_iff.2 ⟨mkType_shape L 0 a, by rw [mkType_sz0]; omega⟩
theorem mkType_ok1 (L : List Int) (a : Nat) : (mkType L 1 a).1.okB = true := okB_iff.2 ⟨mkType_shape L 1 a, by have := mkType_sz1 L a; omega⟩
theorem mkType_5 {L : List Int} {d a : Nat} (h : (next L 7 a).1 = 5) : mkType L (d + 1) a = (.two (mkType L d (next L 7 a).2).1 (mkType L d (mkType L d (next L 7 a).2).2).1, (mkType L d (mkType L d (next L 7 a).2).2).2) := by
  rw [mkType, h]; rfl
theorem mkType_6 {L : List Int} {d a : Nat} (h : (next L 7 a).1 = 6) : mkType L (d + 1) a = (.func (mkType L d (next L 7 a).2).1 (mkType L d (mkType L d (next L 7 a).2).2).1, (mkType L d (mkType L d (next L 7 a).2).2).2) := by
  rw [mkType, h]; rfl
theorem mkType_szb (L : List Int) : ∀ (d a : Nat), (mkType L d a).1.sz < 2 ^ (d + 1)
  | 0, a => by rw [mkType_sz0]; decide
  | d + 1, a => by
    have h1 := mkType_szb L d (next L 7 a).2
    have h2 := mkType_szb L d (mkType L d (next L 7 a).2).2
    have hp : 2 ^ (d + 1 + 1) = 2 * 2 ^ (d + 1) := by rw [Nat.pow_succ]; omega
    unfold mkType
    split
    · simp [Typ.list, Typ.sz, szTys]
    · split
      · simp [Typ.unit, Typ.sz, szTys]
      · split
        · simp [Typ.two, Typ.sz, szTys]; omega
        · split
          · simp [Typ.func, Typ.sz, szTys]; omega
          · simp [Typ.nat, Typ.sz, szTys]
theorem mkType_szd (L : List Int) (d : Nat) (hd : d ≤ 5) (a : Nat) : (mkType L d a).1.sz ≤ 1000000 := by
  have h := mkType_szb L d a
  have : 2 ^ (d + 1) ≤ 2 ^ 6 := Nat.pow_le_pow_right (by omega) (by omega)
  omega
def mkTypes (L : List Int) : Nat → Nat → List Typ × Nat
  | 0, a => ([], a)
  | n + 1, a => ((mkTypes L n a).1 ++ [(mkType L 1 (mkTypes L n a).2).1], (mkType L 1 (mkTypes L n a).2).2)
theorem mkTypes_len (L : List Int) (a : Nat) : ∀ n, (mkTypes L n a).1.length = n
  | 0 => rfl
  | n + 1 => by simp [mkTypes, mkTypes_len L a n]
theorem mkTypes_at (L : List Int) {a : Nat} (h : a ≤ L.length) : ∀ n, (mkTypes L n a).2 ≤ L.length
  | 0 => h
  | n + 1 => mkType_at L 1 (mkTypes_at L h n)
theorem mkTypes_ok (L : List Int) (a : Nat) : ∀ n, ∀ t ∈ (mkTypes L n a).1, t.okB = true ∧ t.sz ≤ 3
  | 0, t, h => by cases h
  | n + 1, t, h => by
    rcases List.mem_append.1 h with h | h
    · exact mkTypes_ok L a n t h
    · simp at h; subst h; exact ⟨mkType_ok1 L _, mkType_sz1 L _⟩
def mkCtx (L : List Int) (a : Nat) : List Typ × Nat := mkTypes L (next L 4 a).1.toNat (next L 4 a).2
theorem mkCtx_len (L : List Int) (a : Nat) : (mkCtx L a).1.length ≤ 3 := by
  unfold mkCtx
  rw [mkTypes_len]
  have := next_range L a (show (1 : Int) ≤ 4 by omega) (by omega)
  omega
theorem mkCtx_ok (L : List Int) (a : Nat) : ∀ u ∈ (mkCtx L a).1, u.okB = true := fun u hu => (mkTypes_ok L _ _ u hu).1
theorem mkCtx_at (L : List Int) {a : Nat} (h : a ≤ L.length) : (mkCtx L a).2 ≤ L.length := mkTypes_at L (next_at L 4 h) _
def tm (k : Int) (l : List Trm) : Trm := .mk k 0 .zero l
def num : Nat → Trm
  | 0 => tm 4 []
  | n + 1 => tm 5 [num n]
theorem num_big : ∀ n, (num n).big = 2 * (n + 1)
  | 0 => rfl
  | n + 1 => by simp [num, tm, Trm.big, bigTms, Typ.zero, Typ.sz, szTys, num_big n]; omega
def appT (f : Trm) (l : List Trm) : Trm := l.foldl (fun f a => tm 3 [f, a]) f
theorem appT_big (l : List Trm) : ∀ f, (appT f l).big = f.big + bigTms l + 2 * l.length := by
  induction l with
  | nil => intro f; simp [appT, bigTms]
  | cons a l ih =>
    intro f
    have := ih (tm 3 [f, a])
    simp only [appT, List.foldl_cons] at this ⊢
    rw [this]
    simp [tm, Trm.big, bigTms, Typ.zero, Typ.sz, szTys]; omega
theorem appT_push (f : Trm) (l : List Trm) (a : Trm) : appT f (l ++ [a]) = tm 3 [appT f l, a] := by simp [appT]
theorem bigTms_take {l : List Trm} {i : Nat} {a : Trm} (h : l[i]? = some a) : bigTms (l.take i) + a.big ≤ bigTms l := by
  have e := bigTms_app (l.take (i + 1)) (l.drop (i + 1))
  rw [List.take_append_drop, take_succ_of h, bigTms_app] at e
  simp [bigTms] at e; omega
def vr (i : Int) : Trm := .var i
def lamN (b : Trm) : Trm := .mk 2 0 .nat [b]
def recN (a b c : Trm) : Trm := .mk 6 0 .nat [a, b, c]
def predT : Trm := lamN (recN (tm 4 []) (lamN (lamN (vr 1))) (vr 0))
def plusT : Trm := lamN (lamN (recN (vr 1) (lamN (lamN (tm 5 [vr 0]))) (vr 0)))
def subT : Trm := lamN (lamN (recN (vr 1) (lamN (lamN (tm 3 [predT, vr 0]))) (vr 0)))

theorem filter_range_succ (p : Nat → Bool) (i : Nat) : (List.range (i + 1)).filter p = (List.range i).filter p ++ (if p i = true then [i] else []) := by
  rw [List.range_succ, List.filter_append]
  congr 1
  rw [List.filter_cons, List.filter_nil]
def varB (g : List Typ) (t : Typ) (i : Nat) : Bool := (g.getD (g.length - 1 - i) .zero).same t
def mkVars (g : List Typ) (t : Typ) : List Int := ((List.range g.length).filter (varB g t)).map Int.ofNat
def funB (g : List Typ) (t : Typ) (i : Nat) : Bool := (g.getD (g.length - 1 - i) .zero).kind == 4 && ((g.getD (g.length - 1 - i) .zero).args.getD 1 .zero).same t
def mkFun (g : List Typ) (t : Typ) : Option Nat := (List.range g.length).find? (funB g t)

abbrev Mk := List Typ → Typ → Nat → Trm × Nat
def deepBody (L : List Int) (rec : Mk) (g : List Typ) (t : Typ) (c : Int) (a : Nat) : Option (Trm × Nat) :=
  if c == 0 then
    let s := mkType L 0 a; let x := rec (g ++ [s.1]) t s.2; let y := rec g s.1 x.2
    some (tm 3 [.mk 2 0 s.1 [x.1], y.1], y.2)
  else if c == 1 then
    let s := mkType L 0 a; let x := rec g t s.2; let y := rec g s.1 x.2
    some (tm 11 [tm 10 [x.1, y.1]], y.2)
  else if c == 2 then
    let x := rec (g ++ [.nat, t]) t a; let y := rec g t x.2; let z := next L 3 y.2
    some (.mk 6 0 t [y.1, .mk 2 0 .nat [.mk 2 0 t [x.1]], num z.1.toNat], z.2)
  else if c == 3 then
    let x := rec (g ++ [.nat, .list, t]) t a; let y := rec g t x.2; let z := rec g .list y.2
    some (.mk 9 0 t [y.1, .mk 2 0 .nat [.mk 2 0 .list [.mk 2 0 t [x.1]]], z.1], z.2)
  else if c == 4 then
    let s := mkType L 0 a; let x := rec g s.1 s.2; let y := rec g t x.2
    some (tm 12 [tm 10 [x.1, y.1]], y.2)
  else if c == 5 then
    match mkFun g t with
    | some i => let x := rec g ((g.getD (g.length - 1 - i) .zero).args.getD 0 .zero) a
      some (tm 3 [.var i, x.1], x.2)
    | none => none
  else none
def flatBody (L : List Int) (rec : Mk) (deep : Bool) (g : List Typ) (t : Typ) (a : Nat) : Trm × Nat :=
  if t.kind == 1 then
    if deep then
      let c := next L 5 a
      if c.1 == 0 then let x := rec g t c.2; (tm 5 [x.1], x.2)
      else if c.1 == 1 then let x := rec g t c.2; let y := rec g t x.2; (appT plusT [x.1, y.1], y.2)
      else if c.1 == 2 then let x := rec g t c.2; let y := rec g t x.2; (appT subT [x.1, y.1], y.2)
      else (num (next L 3 c.2).1.toNat, (next L 3 c.2).2)
    else (num (next L 3 a).1.toNat, (next L 3 a).2)
  else if t.kind == 2 then
    if deep then
      let c := next L 2 a
      if c.1 == 0 then let x := rec g .nat c.2; let y := rec g t x.2; (tm 8 [x.1, y.1], y.2)
      else (tm 7 [], c.2)
    else (tm 7 [], a)
  else if t.kind == 3 then
    let x := rec g (t.args.getD 0 .zero) a; let y := rec g (t.args.getD 1 .zero) x.2
    (tm 10 [x.1, y.1], y.2)
  else if t.kind == 4 then
    let x := rec (g ++ [t.args.getD 0 .zero]) (t.args.getD 1 .zero) a
    (.mk 2 0 (t.args.getD 0 .zero) [x.1], x.2)
  else (tm 13 [], a)
def draw3 (L : List Int) (g : List Typ) (t : Typ) (a : Nat) : Int × Nat := if decide (((mkVars g t).length : Int) > 0) then next L 3 a else (0, a)
def termBody (L : List Int) (rec : Mk) (deep : Bool) (g : List Typ) (t : Typ) (a : Nat) : Trm × Nat :=
  let c0 := draw3 L g t a
  if decide (((mkVars g t).length : Int) > 0) && decide (c0.1 > 0) then
    let c := next L (mkVars g t).length c0.2
    (.var ((mkVars g t).getD c.1.toNat 0), c.2)
  else
    (if deep then deepBody L rec g t (next L 8 c0.2).1 (next L 8 c0.2).2 else none).getD (flatBody L rec deep g t (if deep then (next L 8 c0.2).2 else c0.2))
/-- A term of a type in a context; the fuel is enough where it is used. -/
def mkTerm (L : List Int) : Nat → Int → Mk
  | 0, _, _, _, a => (.zero, a)
  | n + 1, dep, g, t, a => termBody L (mkTerm L n (dep - 1)) (decide (dep > 0)) g t a
theorem draw3_at {L : List Int} {g : List Typ} {t : Typ} {a : Nat} (h : a ≤ L.length) : (draw3 L g t a).2 ≤ L.length := by
  unfold draw3
  split
  · exact next_at L 3 h
  · exact h
theorem deepBody_at {L : List Int} {rec : Mk} (hrec : ∀ g t a, a ≤ L.length → (rec g t a).2 ≤ L.length) {g : List Typ} {t : Typ} {c : Int} {a : Nat} (h : a ≤ L.length) {r : Trm × Nat} (hr : deepBody L rec g t c a = some r) : r.2 ≤ L.length := by
  unfold deepBody at hr
  repeat' (split at hr)
  all_goals first | (cases hr; done) | (cases hr; dsimp only; repeat (first | exact h | apply hrec | apply next_at | apply mkType_at))
theorem flatBody_at {L : List Int} {rec : Mk} (hrec : ∀ g t a, a ≤ L.length → (rec g t a).2 ≤ L.length) {deep : Bool} {g : List Typ} {t : Typ} {a : Nat} (h : a ≤ L.length) : (flatBody L rec deep g t a).2 ≤ L.length := by
  unfold flatBody
  repeat' (first | split | simp only [])
  all_goals (repeat (first | exact h | apply hrec | apply next_at))
theorem termBody_at {L : List Int} {rec : Mk} (hrec : ∀ g t a, a ≤ L.length → (rec g t a).2 ≤ L.length) {deep : Bool} {g : List Typ} {t : Typ} {a : Nat} (h : a ≤ L.length) : (termBody L rec deep g t a).2 ≤ L.length := by
  have h0 := draw3_at (g := g) (t := t) h
  unfold termBody
  simp only
  split
  · exact next_at L _ h0
  · cases hr : (if deep = true then deepBody L rec g t (next L 8 (draw3 L g t a).2).1 (next L 8 (draw3 L g t a).2).2 else none) with
    | some r =>
      simp only [Option.getD_some]
      split at hr
      · exact deepBody_at hrec (next_at L 8 h0) hr
      · cases hr
    | none =>
      simp only [Option.getD_none]
      refine flatBody_at hrec ?_
      split
      · exact next_at L 8 h0
      · exact h0
theorem mkTerm_at (L : List Int) : ∀ (n : Nat) (dep : Int) (g : List Typ) (t : Typ) (a : Nat), a ≤ L.length → (mkTerm L n dep g t a).2 ≤ L.length
  | 0, _, _, _, _, h => h
  | n + 1, dep, g, t, a, h => termBody_at (mkTerm_at L n (dep - 1)) h
def fuelOk (n : Nat) (dep : Int) (t : Typ) : Prop := (dep ≤ 0 ∧ t.sz ≤ n) ∨ (0 < dep ∧ dep + 64 ≤ n)
theorem two_args {t : Typ} (h : t.okB = true) (hk : t.kind = 3 ∨ t.kind = 4) : ∃ x y, t = .mk t.kind [x, y] ∧ x.okB = true ∧ y.okB = true ∧ t.sz = 1 + x.sz + y.sz ∧ t.args.getD 0 .zero = x ∧ t.args.getD 1 .zero = y := by
  have h2 := shape_args (okB_iff.1 h).1 hk
  have o0 := okB_arg h (i := 0) (by omega)
  have o1 := okB_arg h (i := 1) (by omega)
  obtain ⟨k, l⟩ := t
  simp only [Typ.args_mk] at h2
  match l, h2 with
  | [x, y], _ => exact ⟨x, y, rfl, o0, o1, by simp [Typ.sz, szTys]; omega, rfl, rfl⟩
theorem ext {g : List Typ} {x : Typ} (hg : ∀ u ∈ g, u.okB = true) (hx : x.okB = true) : ∀ u ∈ g ++ [x], u.okB = true := fun u hu => by
  rcases List.mem_append.1 hu with h | h
  · exact hg u h
  · simp at h; subst h; exact hx
theorem ext2 {g : List Typ} {x y : Typ} (hg : ∀ u ∈ g, u.okB = true) (hx : x.okB = true) (hy : y.okB = true) : ∀ u ∈ g ++ [x, y], u.okB = true := fun u hu => by
  rcases List.mem_append.1 hu with h | h
  · exact hg u h
  · simp at h; rcases h with rfl | rfl
    · exact hx
    · exact hy
theorem ext3 {g : List Typ} {x y z : Typ} (hg : ∀ u ∈ g, u.okB = true) (hx : x.okB = true) (hy : y.okB = true) (hz : z.okB = true) : ∀ u ∈ g ++ [x, y, z], u.okB = true := fun u hu => by
  rcases List.mem_append.1 hu with h | h
  · exact hg u h
  · simp at h; rcases h with rfl | rfl | rfl
    · exact hx
    · exact hy
    · exact hz
theorem flat_big {L : List Int} {rec : Mk} {g : List Typ} {t : Typ} (ht : t.okB = true) (hg : ∀ u ∈ g, u.okB = true) (hrec : ∀ g' t' a, t'.sz < t.sz → t'.okB = true → (∀ u ∈ g', u.okB = true) → (rec g' t' a).1.big ≤ 8 * t'.sz) (a : Nat) : (flatBody L rec false g t a).1.big ≤ 8 * t.sz := by
  have hp := t.sz_pos
  have hz : ∀ b, (num (next L 3 b).1.toNat).big ≤ 6 := fun b => by
    have := next_range L b (show (1 : Int) ≤ 3 by omega) (by omega)
    rw [num_big]; omega
  unfold flatBody
  simp only [Bool.false_eq_true, if_false]
  split
  · have := hz a; simp only; omega
  · split
    · simp [tm, Trm.big, bigTms, Typ.zero, Typ.sz, szTys]; omega
    · split
      · rename_i hk
        obtain ⟨x, y, e, ox, oy, hs, e0, e1⟩ := two_args ht (.inl (by simpa using hk))
        rw [e0, e1]
        have h1 := hrec g x a (by omega) ox hg
        have h2 := hrec g y (rec g x a).2 (by omega) oy hg
        simp [tm, Trm.big, bigTms, Typ.zero, Typ.sz, szTys]; omega
      · split
        · rename_i hk
          obtain ⟨x, y, e, ox, oy, hs, e0, e1⟩ := two_args ht (.inr (by simpa using hk))
          rw [e0, e1]
          have h2 := hrec (g ++ [x]) y a (by omega) oy (ext hg ox)
          simp [Trm.big, bigTms]; omega
        · simp [tm, Trm.big, bigTms, Typ.zero, Typ.sz, szTys]; omega
theorem flat_big_deep {L : List Int} {rec : Mk} {M : Nat} {g : List Typ} {t : Typ} (ht : t.okB = true) (hg : ∀ u ∈ g, u.okB = true) (hrec : ∀ g' t' a, t'.okB = true → (∀ u ∈ g', u.okB = true) → (rec g' t' a).1.big ≤ M) (a : Nat) : (flatBody L rec true g t a).1.big ≤ 3 * M + 400 := by
  have hp := (okB_iff.1 ht).2
  have hz : ∀ b, (num (next L 3 b).1.toNat).big ≤ 6 := fun b => by
    have := next_range L b (show (1 : Int) ≤ 3 by omega) (by omega)
    rw [num_big]; omega
  unfold flatBody
  simp only [if_true]
  split
  · have h1 := hrec g t (next L 5 a).2 ht hg
    have h2 := hrec g t (rec g t (next L 5 a).2).2 ht hg
    split
    · simp [tm, Trm.big, bigTms, Typ.zero, Typ.sz, szTys]; omega
    · split
      · have hpl : plusT.big ≤ 100 := by decide
        simp only [appT_big]; simp [bigTms]; omega
      · split
        · have hpl : subT.big ≤ 100 := by decide
          simp only [appT_big]; simp [bigTms]; omega
        · have := hz (next L 5 a).2; simp only; omega
  · split
    · have h1 := hrec g .nat (next L 2 a).2 (by decide) hg
      have h2 := hrec g t (rec g .nat (next L 2 a).2).2 ht hg
      split
      · simp [tm, Trm.big, bigTms, Typ.zero, Typ.sz, szTys]; omega
      · simp [tm, Trm.big, bigTms, Typ.zero, Typ.sz, szTys]
    · split
      · rename_i hk
        obtain ⟨x, y, e, ox, oy, hs, e0, e1⟩ := two_args ht (.inl (by simpa using hk))
        rw [e0, e1]
        have h1 := hrec g x a ox hg
        have h2 := hrec g y (rec g x a).2 oy hg
        simp [tm, Trm.big, bigTms, Typ.zero, Typ.sz, szTys]; omega
      · split
        · rename_i hk
          obtain ⟨x, y, e, ox, oy, hs, e0, e1⟩ := two_args ht (.inr (by simpa using hk))
          rw [e0, e1]
          have h2 := hrec (g ++ [x]) y a oy (ext hg ox)
          simp [Trm.big, bigTms]; omega
        · simp [tm, Trm.big, bigTms, Typ.zero, Typ.sz, szTys]
theorem mkFun_some {g : List Typ} {t : Typ} {i : Nat} (h : mkFun g t = some i) : i < g.length ∧ funB g t i = true := by
  unfold mkFun at h
  exact ⟨by simpa using List.mem_of_find?_eq_some h, List.find?_some h⟩
theorem mkFun_at {g : List Typ} {t : Typ} {i : Nat} (h1 : i < g.length) (h2 : funB g t i = true) (h3 : ∀ j, j < i → funB g t j = false) : mkFun g t = some i := by
  unfold mkFun
  rw [List.find?_eq_some_iff_getElem]
  exact ⟨h2, i, by simpa using h1, by simp, fun j hj => by simp [h3 j hj]⟩
theorem mkFun_none {g : List Typ} {t : Typ} (h : ∀ j, j < g.length → funB g t j = false) : mkFun g t = none := by
  unfold mkFun
  rw [List.find?_eq_none]
  intro j hj
  simp [h j (by simpa using hj)]
theorem mkVars_at (g : List Typ) (t : Typ) {c : Int} (h0 : 0 ≤ c) (h1 : c < (mkVars g t).length) : (dInts (mkVars g t))[c.toNat]? = some [.int .i64 ((mkVars g t).getD c.toNat 0)] := by
  have hlt : c.toNat < (mkVars g t).length := by omega
  rw [getD_at _ _ hlt]
  exact dInts_get (List.getElem?_eq_getElem hlt)
theorem deep_big {L : List Int} {rec : Mk} {M : Nat} {g : List Typ} {t : Typ} (ht : t.okB = true) (hg : ∀ u ∈ g, u.okB = true) (hrec : ∀ g' t' a, t'.okB = true → (∀ u ∈ g', u.okB = true) → (rec g' t' a).1.big ≤ M) {c : Int} {a : Nat} {r : Trm × Nat} (hr : deepBody L rec g t c a = some r) : r.1.big ≤ 3 * M + 400 := by
  have hp := (okB_iff.1 ht).2
  have hz : ∀ b, (num (next L 3 b).1.toNat).big ≤ 6 := fun b => by
    have := next_range L b (show (1 : Int) ≤ 3 by omega) (by omega)
    rw [num_big]; omega
  have s0 : (mkType L 0 a).1.sz = 1 := mkType_sz0 L a
  have so := mkType_ok0 L a
  unfold deepBody at hr
  split at hr
  · injection hr with hr; subst hr
    have h1 := hrec (g ++ [(mkType L 0 a).1]) t (mkType L 0 a).2 ht (ext hg so)
    have h2 := hrec g (mkType L 0 a).1 (rec (g ++ [(mkType L 0 a).1]) t (mkType L 0 a).2).2 so hg
    simp [tm, Trm.big, bigTms, Typ.zero, Typ.sz, szTys]; omega
  split at hr
  · injection hr with hr; subst hr
    have h1 := hrec g t (mkType L 0 a).2 ht hg
    have h2 := hrec g (mkType L 0 a).1 (rec g t (mkType L 0 a).2).2 so hg
    simp [tm, Trm.big, bigTms, Typ.zero, Typ.sz, szTys]; omega
  split at hr
  · injection hr with hr; subst hr
    have h1 := hrec (g ++ [.nat, t]) t a ht (ext2 hg (by decide) ht)
    have h2 := hrec g t (rec (g ++ [.nat, t]) t a).2 ht hg
    have h3 := hz (rec g t (rec (g ++ [.nat, t]) t a).2).2
    have z1 : Typ.nat.sz = 1 := rfl
    simp only [Trm.big, bigTms, z1]; omega
  split at hr
  · injection hr with hr; subst hr
    have h1 := hrec (g ++ [.nat, .list, t]) t a ht (ext3 hg (by decide) (by decide) ht)
    have h2 := hrec g t (rec (g ++ [.nat, .list, t]) t a).2 ht hg
    have h3 := hrec g .list (rec g t (rec (g ++ [.nat, .list, t]) t a).2).2 (by decide) hg
    have z1 : Typ.nat.sz = 1 := rfl
    have z2 : Typ.list.sz = 1 := rfl
    simp only [Trm.big, bigTms, z1, z2]; omega
  split at hr
  · injection hr with hr; subst hr
    have h1 := hrec g (mkType L 0 a).1 (mkType L 0 a).2 so hg
    have h2 := hrec g t (rec g (mkType L 0 a).1 (mkType L 0 a).2).2 ht hg
    simp [tm, Trm.big, bigTms, Typ.zero, Typ.sz, szTys]; omega
  split at hr
  · split at hr
    · rename_i i hi
      injection hr with hr; subst hr
      obtain ⟨h1, h2⟩ := mkFun_some hi
      have hlt : g.length - 1 - i < g.length := by omega
      have o : (g.getD (g.length - 1 - i) .zero).okB = true := by rw [getD_at _ _ hlt]; exact hg _ (List.getElem_mem hlt)
      simp only [funB, Bool.and_eq_true, beq_iff_eq] at h2
      obtain ⟨x, y, e, ox, oy, hs, e0, e1⟩ := two_args o (.inr h2.1)
      rw [e0]
      have := hrec g x a ox hg
      simp [tm, Trm.big, bigTms, Trm.var, Typ.zero, Typ.sz, szTys]; omega
    · cases hr
  · cases hr
theorem mkTerm_big (L : List Int) : ∀ (n : Nat) (dep : Int) (g : List Typ) (t : Typ) (a : Nat), t.okB = true → (∀ u ∈ g, u.okB = true) → fuelOk n dep t →
    (mkTerm L n dep g t a).1.big ≤ (if dep ≤ 0 then 8 * t.sz else 1000 * 4 ^ dep.toNat)
  | 0, dep, g, t, a, ht, hg, hf => by
    have := t.sz_pos
    rcases hf with ⟨h1, h2⟩ | ⟨h1, h2⟩ <;> omega
  | n + 1, dep, g, t, a, ht, hg, hf => by
    have hsz := (okB_iff.1 ht).2
    have hps := t.sz_pos
    have hv : ∀ i, (Trm.var i).big = 2 := fun i => rfl
    rcases hf with ⟨h1, h2⟩ | ⟨h1, h2⟩
    · rw [if_pos h1]
      have hd : decide (dep > 0) = false := by simp; omega
      unfold mkTerm termBody
      simp only [hd, Bool.false_eq_true, if_false]
      split
      · simp only [hv]; omega
      · refine flat_big ht hg (fun g' t' a' h3 h4 h5 => ?_) _
        have := mkTerm_big L n (dep - 1) g' t' a' h4 h5 (.inl ⟨by omega, by omega⟩)
        rw [if_pos (by omega)] at this
        exact this
    · rw [if_neg (by omega)]
      have hd : decide (dep > 0) = true := by simp; omega
      have hM : ∀ g' t' a', t'.okB = true → (∀ u ∈ g', u.okB = true) → (mkTerm L n (dep - 1) g' t' a').1.big ≤ 1000 * 4 ^ (dep - 1).toNat := fun g' t' a' h4 h5 => by
        have h6 := (okB_iff.1 h4).2
        have h7 : 1 ≤ 4 ^ (dep - 1).toNat := Nat.one_le_pow _ _ (by omega)
        have := mkTerm_big L n (dep - 1) g' t' a' h4 h5 (by
          by_cases hdd : dep - 1 ≤ 0
          · exact .inl ⟨hdd, by omega⟩
          · exact .inr ⟨by omega, by omega⟩)
        split at this
        · omega
        · exact this
      have hpow : 4 ^ dep.toNat = 4 * 4 ^ (dep - 1).toNat := by
        rw [show dep.toNat = (dep - 1).toNat + 1 by omega, Nat.pow_succ]; omega
      have h7 : 1 ≤ 4 ^ (dep - 1).toNat := Nat.one_le_pow _ _ (by omega)
      rw [hpow]
      unfold mkTerm termBody
      simp only [hd, if_true]
      split
      · simp only [hv]; omega
      · cases hr : deepBody L (mkTerm L n (dep - 1)) g t (next L 8 (draw3 L g t a).2).1 (next L 8 (draw3 L g t a).2).2 with
        | some r =>
          have := deep_big ht hg hM hr
          simp only [Option.getD_some]
          omega
        | none =>
          have := flat_big_deep (L := L) ht hg hM (next L 8 (draw3 L g t a).2).2
          simp only [Option.getD_none]
          omega
theorem mkTerm_64k (L : List Int) (n : Nat) (dep : Int) (g : List Typ) (t : Typ) (a : Nat) (ht : t.okB = true) (hg : ∀ u ∈ g, u.okB = true) (hf : fuelOk n dep t) (hd : dep ≤ 3) : (mkTerm L n dep g t a).1.big ≤ 64000 := by
  have h := mkTerm_big L n dep g t a ht hg hf
  have hs := (okB_iff.1 ht).2
  split at h
  · omega
  · have : 4 ^ dep.toNat ≤ 4 ^ 3 := Nat.pow_le_pow_right (by omega) (by omega)
    omega
end Go.AM
set_option linter.unusedVariables false
set_option linter.unusedSimpArgs false
namespace Go.AM
open Go Go.RowKit

/-- The type of a variable in a context. -/
def tyAt (g : List Typ) (i : Nat) : Typ := g.getD (g.length - 1 - i) .zero
theorem tyAt_left (g d : List Typ) {i : Nat} (h : d.length ≤ i) (h2 : i < d.length + g.length) : tyAt (g ++ d) i = tyAt g (i - d.length) := by
  unfold tyAt
  rw [List.getD_eq_getElem?_getD, List.getD_eq_getElem?_getD, List.length_append, List.getElem?_append_left (by omega)]
  congr 2; omega
theorem tyAt_right (g d : List Typ) {i : Nat} (h : i < d.length) : tyAt (g ++ d) i = tyAt d i := by
  unfold tyAt
  rw [List.getD_eq_getElem?_getD, List.getD_eq_getElem?_getD, List.length_append, List.getElem?_append_right (by omega)]
  congr 2; omega
inductive HasT : List Typ → Trm → Typ → Prop
  | var {g : List Typ} {i : Nat} : i < g.length → HasT g (.var i) (tyAt g i)
  | lam {g s b u} : s.okB = true → (Typ.func s u).okB = true → HasT (g ++ [s]) b u → HasT g (.mk 2 0 s [b]) (.func s u)
  | app {g f a s u} : HasT g f (.func s u) → HasT g a s → HasT g (tm 3 [f, a]) u
  | zero {g} : HasT g (tm 4 []) .nat
  | succ {g a} : HasT g a .nat → HasT g (tm 5 [a]) .nat
  | recu {g s a b c} : s.okB = true → HasT g a s → HasT g b (.func .nat (.func s s)) → HasT g c .nat → HasT g (.mk 6 0 s [a, b, c]) s
  | nil {g} : HasT g (tm 7 []) .list
  | cons {g a b} : HasT g a .nat → HasT g b .list → HasT g (tm 8 [a, b]) .list
  | fold {g s a b c} : s.okB = true → HasT g a s → HasT g b (.func .nat (.func .list (.func s s))) → HasT g c .list → HasT g (.mk 9 0 s [a, b, c]) s
  | pair {g a b s u} : (Typ.two s u).okB = true → HasT g a s → HasT g b u → HasT g (tm 10 [a, b]) (.two s u)
  | fst {g a s u} : HasT g a (.two s u) → HasT g (tm 11 [a]) s
  | snd {g a s u} : HasT g a (.two s u) → HasT g (tm 12 [a]) u
  | unit {g} : HasT g (tm 13 []) .unit
theorem HasT.varI {g : List Typ} {i : Nat} {u : Typ} (h : i < g.length) (hu : tyAt g i = u) : HasT g (.var i) u := by subst hu; exact .var h
theorem okT_of {t : Typ} (h : t.okB = true) : okT t = (0, t) := by
  have := Typ.err_ok t
  rw [h] at this
  have e : t.err = 0 := by simpa using this
  simp [okT, e]
theorem same_refl (t : Typ) : t.same t = true := (same_eq t t).2 rfl
theorem infer_of {g : List Typ} {t : Trm} {u : Typ} (h : HasT g t u) : t.infer g = (0, u) := by
  induction h with
  | @var g i h =>
    simp only [Trm.var, Trm.infer, beq_self_eq_true, if_true]
    rw [if_neg (by simp; omega)]
    rfl
  | lam h1 h2 h3 ih => simp [Trm.infer, infers, ih, node, okT_of h2]
  | app h1 h2 ih1 ih2 => simp [tm, Trm.infer, infers, ih1, ih2, node, Typ.func, same_refl]
  | zero => rfl
  | succ h ih => simp [tm, Trm.infer, infers, ih, node, same_refl]
  | recu h1 h2 h3 h4 i2 i3 i4 => simp [Trm.infer, infers, i2, i3, i4, node, same_refl]
  | nil => rfl
  | cons h1 h2 i1 i2 => simp [tm, Trm.infer, infers, i1, i2, node, same_refl]
  | fold h1 h2 h3 h4 i2 i3 i4 => simp [Trm.infer, infers, i2, i3, i4, node, same_refl]
  | pair h1 h2 h3 i2 i3 => simp [tm, Trm.infer, infers, i2, i3, node, okT_of h1]
  | fst h ih => simp [tm, Trm.infer, infers, ih, node, Typ.two]
  | snd h ih => simp [tm, Trm.infer, infers, ih, node, Typ.two]
  | unit => rfl
theorem none_zero : Typ.zero.none = true := rfl
theorem shape_of {g : List Typ} {t : Trm} {u : Typ} (h : HasT g t u) : t.shape = true := by
  induction h with
  | @var g i h => rw [Trm.var, Trm.shape_iff]; exact ⟨rfl, by omega, .inr rfl, rfl, fun a ha => by cases ha⟩
  | lam h1 h2 h3 ih => rw [Trm.shape_iff]; exact ⟨rfl, by omega, .inl rfl, by simpa [typed] using h1, by simpa using ih⟩
  | app h1 h2 ih1 ih2 => rw [tm, Trm.shape_iff]; exact ⟨rfl, by omega, .inl rfl, rfl, by simpa using ⟨ih1, ih2⟩⟩
  | zero => rfl
  | succ h ih => rw [tm, Trm.shape_iff]; exact ⟨rfl, by omega, .inl rfl, rfl, by simpa using ih⟩
  | recu h1 h2 h3 h4 i2 i3 i4 => rw [Trm.shape_iff]; exact ⟨rfl, by omega, .inl rfl, by simpa [typed] using h1, by simpa using ⟨i2, i3, i4⟩⟩
  | nil => rfl
  | cons h1 h2 i1 i2 => rw [tm, Trm.shape_iff]; exact ⟨rfl, by omega, .inl rfl, rfl, by simpa using ⟨i1, i2⟩⟩
  | fold h1 h2 h3 h4 i2 i3 i4 => rw [Trm.shape_iff]; exact ⟨rfl, by omega, .inl rfl, by simpa [typed] using h1, by simpa using ⟨i2, i3, i4⟩⟩
  | pair h1 h2 h3 i2 i3 => rw [tm, Trm.shape_iff]; exact ⟨rfl, by omega, .inl rfl, rfl, by simpa using ⟨i2, i3⟩⟩
  | fst h ih => rw [tm, Trm.shape_iff]; exact ⟨rfl, by omega, .inl rfl, rfl, by simpa using ih⟩
  | snd h ih => rw [tm, Trm.shape_iff]; exact ⟨rfl, by omega, .inl rfl, rfl, by simpa using ih⟩
  | unit => rfl
theorem rebuild_mk {k i : Int} {s : Typ} {l : List Trm} (h1 : (k == 1) = false) (h2 : (k == 2) = false) (f : Int → Int → Trm) (b : Int) : (Trm.mk k i s l).rebuild f b = .mk k i s (l.map (·.rebuild f b)) := by
  simp only [Trm.rebuild, h1, h2, Bool.false_eq_true, if_false, rebuilds_map]
theorem rebuild_tm {k : Int} {l : List Trm} (h1 : (k == 1) = false) (h2 : (k == 2) = false) (f : Int → Int → Trm) (b : Int) : (tm k l).rebuild f b = tm k (l.map (·.rebuild f b)) := rebuild_mk h1 h2 f b
theorem rebuild_lam {s : Typ} {t : Trm} (f : Int → Int → Trm) {b : Nat} (hb : b < 1000000000) : (Trm.mk 2 0 s [t]).rebuild f b = .mk 2 0 s [t.rebuild f ((b + 1 : Nat) : Int)] := by
  simp only [Trm.rebuild, rebuilds]
  rw [if_neg (by decide), if_pos (by decide), w64_id (by omega) (by omega)]; rfl
theorem rebuild_var (f : Int → Int → Trm) (i b : Int) : (Trm.var i).rebuild f b = f i b := rfl
theorem sz_tm1 {k i : Int} {s : Typ} (a : Trm) : (Trm.mk k i s [a]).sz = 1 + a.sz := by simp [Trm.sz, szTms]
theorem sz_tm2 {k i : Int} {s : Typ} (a b : Trm) : (Trm.mk k i s [a, b]).sz = 1 + a.sz + b.sz := by simp [Trm.sz, szTms]; omega
theorem sz_tm3 {k i : Int} {s : Typ} (a b c : Trm) : (Trm.mk k i s [a, b, c]).sz = 1 + a.sz + b.sz + c.sz := by simp [Trm.sz, szTms]; omega

/-- A rebuilding that keeps types at the variables keeps them everywhere. -/
theorem rebuild_typed {f : Int → Int → Trm} {g g' : List Typ} (hv : ∀ (d : List Typ) (i : Nat), i < (g ++ d).length → (g ++ d).length ≤ 1000000 → HasT (g' ++ d) (f i d.length) (tyAt (g ++ d) i)) {G : List Typ} {t : Trm} {u : Typ} (h : HasT G t u) :
    ∀ d, G = g ++ d → G.length + t.sz ≤ 1000000 → HasT (g' ++ d) (t.rebuild f d.length) u := by
  induction h with
  | var h => intro d e hb; subst e; rw [rebuild_var]; exact hv d _ h (by omega)
  | @lam g0 s b u h1 h2 h3 ih =>
    intro d e hb; subst e
    rw [sz_tm1] at hb
    rw [rebuild_lam _ (by simp at hb; omega)]
    refine .lam h1 h2 ?_
    have := ih (d ++ [s]) (by simp) (by simp at hb ⊢; omega)
    rw [List.append_assoc, show d.length + 1 = (d ++ [s]).length by simp]
    exact this
  | app h1 h2 i1 i2 => intro d e hb; rw [tm, sz_tm2] at hb; rw [rebuild_tm rfl rfl]; exact .app (i1 d e (by omega)) (i2 d e (by omega))
  | zero => intro d e hb; rw [rebuild_tm rfl rfl]; exact .zero
  | succ h1 i1 => intro d e hb; rw [tm, sz_tm1] at hb; rw [rebuild_tm rfl rfl]; exact .succ (i1 d e (by omega))
  | recu h1 h2 h3 h4 i2 i3 i4 => intro d e hb; rw [sz_tm3] at hb; rw [rebuild_mk rfl rfl]; exact .recu h1 (i2 d e (by omega)) (i3 d e (by omega)) (i4 d e (by omega))
  | nil => intro d e hb; rw [rebuild_tm rfl rfl]; exact .nil
  | cons h1 h2 i1 i2 => intro d e hb; rw [tm, sz_tm2] at hb; rw [rebuild_tm rfl rfl]; exact .cons (i1 d e (by omega)) (i2 d e (by omega))
  | fold h1 h2 h3 h4 i2 i3 i4 => intro d e hb; rw [sz_tm3] at hb; rw [rebuild_mk rfl rfl]; exact .fold h1 (i2 d e (by omega)) (i3 d e (by omega)) (i4 d e (by omega))
  | pair h1 h2 h3 i2 i3 => intro d e hb; rw [tm, sz_tm2] at hb; rw [rebuild_tm rfl rfl]; exact .pair h1 (i2 d e (by omega)) (i3 d e (by omega))
  | fst h1 i1 => intro d e hb; rw [tm, sz_tm1] at hb; rw [rebuild_tm rfl rfl]; exact .fst (i1 d e (by omega))
  | snd h1 i1 => intro d e hb; rw [tm, sz_tm1] at hb; rw [rebuild_tm rfl rfl]; exact .snd (i1 d e (by omega))
  | unit => intro d e hb; rw [rebuild_tm rfl rfl]; exact .unit
theorem lift_typed {g m : List Typ} (hm : m.length ≤ 1000000) {t : Trm} {u : Typ} (h : HasT g t u) (hb : g.length + t.sz ≤ 1000000) : HasT (g ++ m) (t.lift 0 m.length) u := by
  have := rebuild_typed (f := liftAt 0 m.length) (g := g) (g' := g ++ m) (fun d i hi hl => ?_) h [] (by simp) hb
  · simpa [Trm.lift] using this
  · rw [List.length_append] at hi hl
    unfold liftAt
    rw [w64_id (x := (i : Int) - d.length) (by omega) (by omega), w64_id (x := (i : Int) + m.length) (by omega) (by omega)]
    by_cases hc : d.length ≤ i
    · rw [if_pos (by simp; omega), show ((i : Int) + m.length) = ((i + m.length : Nat) : Int) by omega]
      refine .varI (by simp; omega) ?_
      rw [tyAt_left _ _ hc (by omega), tyAt_left _ _ (by omega) (by simp; omega), tyAt_left _ _ (by omega) (by omega)]
      congr 1; omega
    · rw [if_neg (by simp; omega)]
      refine .varI (by simp; omega) ?_
      rw [tyAt_right _ _ (by omega), tyAt_right _ _ (by omega)]
theorem put_typed {g : List Typ} {s : Typ} {y t : Trm} {u : Typ} (hy : HasT g y s) (hyb : g.length + y.sz ≤ 1000000) (h : HasT (g ++ [s]) t u) (hb : (g ++ [s]).length + t.sz ≤ 1000000) : HasT g (t.put 0 y) u := by
  have := rebuild_typed (f := putAt 0 y) (g := g ++ [s]) (g' := g) (fun d i hi hl => ?_) h [] (by simp) hb
  · simpa [Trm.put] using this
  · rw [List.length_append] at hi hl
    simp only [List.length_append, List.length_cons, List.length_nil] at hi hl
    unfold putAt
    rw [w64_id (x := (i : Int) - d.length) (by omega) (by omega), w64_id (x := 0 + (d.length : Int)) (by omega) (by omega), w64_id (x := (i : Int) - 1) (by omega) (by omega)]
    by_cases h1 : i = d.length
    · rw [if_pos (by simp; omega), Int.zero_add]
      have e : tyAt (g ++ [s] ++ d) i = s := by
        rw [tyAt_left _ _ (by omega) (by simp; omega), show i - d.length = 0 by omega, tyAt_right _ _ (by simp)]; rfl
      rw [e]
      exact lift_typed (by omega) hy hyb
    · rw [if_neg (by simp; omega)]
      by_cases h2 : d.length < i
      · rw [if_pos (by simp; omega), show ((i : Int) - 1) = ((i - 1 : Nat) : Int) by omega]
        refine .varI (by simp; omega) ?_
        rw [tyAt_left _ _ (by omega) (by omega), List.append_assoc, tyAt_left _ _ (by simp; omega) (by simp; omega)]
        congr 1; simp; omega
      · rw [if_neg (by simp; omega)]
        refine .varI (by simp; omega) ?_
        rw [tyAt_right _ _ (by omega), tyAt_right _ _ (by omega)]
end Go.AM

/-
  What the printed functions reckon: comparisons, and what is made out of a list of numbers.
-/
import Derived.Test.YtgilcibfknafiaaGreatDoorZgAnT
set_option linter.unusedVariables false
set_option linter.unusedSimpArgs false
namespace Go.AM
open Go
def all2 {α : Type} (f : α → α → Bool) : List α → List α → Bool
  | [], [] => true
  | a :: l, b :: r => f a b && all2 f l r
  | _, _ => false
theorem sameTys_all2 : ∀ l r : List Typ, sameTys l r = all2 Typ.same l r
  | [], [] => rfl
  | a :: l, b :: r => by simp [sameTys, all2, sameTys_all2 l r]
  | [], _ :: _ => rfl
  | _ :: _, [] => rfl
theorem sameTms_all2 : ∀ l r : List Trm, sameTms l r = all2 Trm.same l r
  | [], [] => rfl
  | a :: l, b :: r => by simp [sameTms, all2, sameTms_all2 l r]
  | [], _ :: _ => rfl
  | _ :: _, [] => rfl
theorem all2_len {α : Type} (f : α → α → Bool) : ∀ l r : List α, l.length ≠ r.length → all2 f l r = false
  | [], [], h => absurd rfl h
  | a :: l, b :: r, h => by simp only [all2]; rw [all2_len f l r (by simpa using h), Bool.and_false]
  | [], _ :: _, _ => rfl
  | _ :: _, [], _ => rfl
theorem loopL_all2 {α R : Type} {fin : Unit → Option R} {bad : Option R} {self : α → α → Option Bool} {f : α → α → Bool} {r : List α} : ∀ {l : List α} {i : Nat}, (∀ a ∈ l, ∀ b ∈ r, self a b = some (f a b)) → i + l.length = r.length →
    loopL fin (fun k i a (_ : Unit) => idx r (i : Int) fun b => bnd (self a b) fun q => cond (!q) bad (k ())) i l () = cond (all2 f l (r.drop i)) (fin ()) bad
  | [], i, _, hl => by
    have : r.drop i = [] := List.drop_of_length_le (by simp at hl; omega)
    rw [this]; rfl
  | a :: l, i, h, hl => by
    simp only [List.length_cons] at hl
    have hi : i < r.length := by omega
    rw [loopL_cons, idx_nat (List.getElem?_eq_getElem hi), bnd_eq (h a List.mem_cons_self _ (List.getElem_mem hi)), List.drop_eq_getElem_cons hi]
    simp only [all2]
    rcases Bool.eq_false_or_eq_true (f a r[i]) with hf | hf
    rotate_left
    · rw [hf]; rfl
    · rw [hf]
      simp only [Bool.not_true, cond_false, Bool.true_and]
      exact loopL_all2 (fun b hb => h b (List.mem_cons_of_mem _ hb)) (by omega)
theorem sameTy_m (t : Typ) : ∀ (m : Nat) (u : Typ), t.sz ≤ m → ref01_Same_m m t u = some (t.same u) := by
  induction t using Typ.ind with
  | _ k l ih =>
    intro m u hm
    obtain ⟨k', r⟩ := u
    rw [Typ.sz_mk] at hm
    cases m with
    | zero => omega
    | succ m =>
      show ref01_Same_b (fun a b => ref01_Same_m m a b) (.mk k l) (.mk k' r) = _
      unfold ref01_Same_b
      show cond (k != k') _ (cond (((l.length : Nat) : Int) != ((r.length : Nat) : Int)) _ _) = _
      simp only [Typ.same, nat_bne]
      by_cases hk : k = k'
      · subst hk
        rw [bne_self_eq_false, cond_false, beq_self_eq_true, Bool.true_and, sameTys_all2]
        by_cases hl : l.length = r.length
        · rw [show (l.length != r.length) = false by simp [hl], cond_false]
          refine (loopL_all2 (self := fun a b => ref01_Same_m m a b) (f := Typ.same) (l := l) (r := r) (i := 0) (fun a ha b _ => ih a ha m b (by have : a.sz ≤ szTys l := szTys_mem ha; omega)) (by omega)).trans ?_
          rw [List.drop_zero]
          cases all2 Typ.same l r <;> rfl
        · rw [show (l.length != r.length) = true by simpa using hl, cond_true, all2_len _ _ _ hl]
      · have e1 : (k != k') = true := by simpa using hk
        have e2 : (k == k') = false := by simpa using hk
        rw [e1, e2]; rfl
theorem sameTyEq (t u : Typ) (h : t.sz ≤ 1000000) : ref01_Same t u = some (t.same u) := sameTy_m t FU u (by unfold FU; omega)
theorem sameTm_m (t : Trm) : ∀ (m : Nat) (u : Trm), t.sz ≤ m → t.big ≤ 1000000 → ref02_Same_m m t u = some (t.same u) := by
  induction t using Trm.ind with
  | _ k i ty l ih =>
    intro m u hm hb
    obtain ⟨k', i', ty', r⟩ := u
    rw [Trm.sz_mk] at hm
    rw [Trm.big_mk] at hb
    cases m with
    | zero => omega
    | succ m =>
      show ref02_Same_b (fun a b => ref02_Same_m m a b) (.mk k i ty l) (.mk k' i' ty' r) = _
      unfold ref02_Same_b
      show cond (k != k') _ (cond (i != i') _ (bnd (ref01_Same ty ty') fun r3 => cond (!r3) _ (cond (((l.length : Nat) : Int) != ((r.length : Nat) : Int)) _ _))) = _
      rw [bnd_eq (sameTyEq ty ty' (by omega))]
      simp only [Trm.same, nat_bne]
      by_cases hk : k = k'
      · subst hk
        rw [bne_self_eq_false, cond_false, beq_self_eq_true, Bool.true_and]
        by_cases hi : i = i'
        · subst hi
          rw [bne_self_eq_false, cond_false, beq_self_eq_true]
          cases hty : ty.same ty' with
          | false => simp
          | true =>
            rw [sameTms_all2]
            simp only [Bool.not_true, cond_false, Bool.true_and]
            by_cases hl : l.length = r.length
            · rw [show (l.length != r.length) = false by simp [hl], cond_false]
              refine (loopL_all2 (self := fun a b => ref02_Same_m m a b) (f := Trm.same) (l := l) (r := r) (i := 0) (fun a ha b _ => ih a ha m b (by have : a.sz ≤ szTms l := szTms_mem ha; omega) (by have : a.big ≤ bigTms l := bigTms_mem ha; omega)) (by omega)).trans ?_
              rw [List.drop_zero]
              cases all2 Trm.same l r <;> rfl
            · rw [show (l.length != r.length) = true by simpa using hl, cond_true, all2_len _ _ _ hl]
        · have e1 : (i != i') = true := by simpa using hi
          have e2 : (i == i') = false := by simpa using hi
          rw [e1, e2]; rfl
      · have e1 : (k != k') = true := by simpa using hk
        have e2 : (k == k') = false := by simpa using hk
        rw [e1, e2]; rfl
theorem sameTmEq (t u : Trm) (h : t.big ≤ 1000000) : ref02_Same t u = some (t.same u) := sameTm_m t FU u (by have := t.sz_le_big; unfold FU; omega) h

/-! ### Drawing -/
abbrev Dk (L : List Int) (a : Nat) : S_make_Deck := ⟨L, (a : Int)⟩
theorem modEq (x : Int) {n : Int} (h : 1 ≤ n) : make_Mod x n = some (md x n) := by
  unfold make_Mod md; rw [nz_ok (by omega), nz_ok (by omega)]
theorem nextEq {L : List Int} (hL : L.length ≤ 500) {n : Int} (hn : 1 ≤ n) (a : Nat) : make_Deck_Next_eb1 n (Dk L a) = some ((next L n a).1, ((next L n a).2 : Int)) := by
  unfold make_Deck_Next_eb1 next
  rw [show decide (n < 1) = false from decide_eq_false (by omega), cond_false, Bool.false_or]
  show cond (decide ((a : Int) ≥ ((L.length : Nat) : Int))) (some (0, (a : Int))) _ = _
  by_cases ha : (a : Int) ≥ L.length
  · rw [decide_eq_true ha]; rfl
  · rw [decide_eq_false ha, cond_false]
    have hlt : a < L.length := by omega
    show idx L (a : Int) _ = _
    rw [idx_nat (List.getElem?_eq_getElem hlt), bnd_eq (modEq _ hn)]
    show some (md L[a] n, w64 ((a : Int) + 1)) = _
    rw [w64_id (by omega) (by omega), if_neg (by simp)]
    simp [hlt]
theorem typeEq_m {L : List Int} (hL : L.length ≤ 500) : ∀ (d : Nat) (m a : Nat), d ≤ 5 → d < m → make_Type_eb1_m m d (Dk L a) = some ((mkType L d a).1, ((mkType L d a).2 : Int)) := by
  intro d
  induction d with
  | zero =>
    intro m a hd hm
    cases m with
    | zero => omega
    | succ m =>
      show make_Type_eb1_b (fun depth o0 => make_Type_eb1_m m depth o0) ((0 : Nat) : Int) (Dk L a) = _
      unfold make_Type_eb1_b make_Type_eb1_k1
      rw [bnd_eq (nextEq hL (by omega) a)]
      simp only [mkType, ref01_Nat, ref01_List, ref01_Unit, bnd_some]
      generalize next L 7 a = c
      obtain ⟨c, b⟩ := c
      dsimp only
      cases e0 : c == 0 <;> cases e1 : c == 1 <;> cases e2 : c == 2 <;> cases e3 : c == 3 <;> cases e4 : c == 4 <;> cases e5 : c == 5 <;> cases e6 : c == 6 <;> first | rfl | (exfalso; simp only [beq_iff_eq] at *; omega)
  | succ d ih =>
    intro m a hd hm
    cases m with
    | zero => omega
    | succ m =>
      show make_Type_eb1_b (fun depth o0 => make_Type_eb1_m m depth o0) ((d + 1 : Nat) : Int) (Dk L a) = _
      unfold make_Type_eb1_b make_Type_eb1_k1
      rw [bnd_eq (nextEq hL (by omega) a)]
      have ew : w64 (((d + 1 : Nat) : Int) - 1) = (d : Int) := by rw [w64_id (by omega) (by omega)]; omega
      have ed : decide (((d + 1 : Nat) : Int) > 0) = true := decide_eq_true (by omega)
      have i1 := ih m (next L 7 a).2 (by omega) (by omega)
      have i2 := ih m (mkType L d (next L 7 a).2).2 (by omega) (by omega)
      have s1 := mkType_szd L d (by omega) (next L 7 a).2
      have s2 := mkType_szd L d (by omega) (mkType L d (next L 7 a).2).2
      simp only [mkType, ref01_Nat, ref01_List, ref01_Unit, ref01_Two, ref01_Fun, bnd_some, ew, ed, cond_true, i1, i2, copyTy _ s1, copyTy _ s2]
      generalize next L 7 a = c
      obtain ⟨c, b⟩ := c
      dsimp only
      cases e0 : c == 0 <;> cases e1 : c == 1 <;> cases e2 : c == 2 <;> cases e3 : c == 3 <;> cases e4 : c == 4 <;> cases e5 : c == 5 <;> cases e6 : c == 6 <;> first | rfl | (exfalso; simp only [beq_iff_eq] at *; omega)
theorem typeEq {L : List Int} (hL : L.length ≤ 500) (d : Nat) (hd : d ≤ 5) (a : Nat) : make_Type_eb1 d (Dk L a) = some ((mkType L d a).1, ((mkType L d a).2 : Int)) := typeEq_m hL d FU a hd (by unfold FU; omega)
theorem ctx_loop {L : List Int} (hL : L.length ≤ 500) (n0 a0 : Nat) : ∀ (c j m : Nat), c + j ≤ 1000 → c < m →
    loopN (fun k3 (x4 : List Typ × Int × Int) => cond (decide (x4.2.1 > 0)) (bnd (make_Type_eb1 1 (S_make_Deck.mk L x4.2.2)) fun r27 => gd (x4.1.length + 1) (k3 ((x4.1 ++ [r27.1]), (w64 (x4.2.1 - 1)), r27.2))) (some (x4.1, x4.2.2))) m ((mkTypes L j a0).1, ((c : Nat) : Int), ((mkTypes L j a0).2 : Int)) =
      some ((mkTypes L (j + c) a0).1, ((mkTypes L (j + c) a0).2 : Int)) := by
  intro c
  induction c with
  | zero =>
    intro j m hb hm
    cases m with
    | zero => omega
    | succ m => rfl
  | succ c ih =>
    intro j m hb hm
    cases m with
    | zero => omega
    | succ m =>
      show cond (decide (((c + 1 : Nat) : Int) > 0)) _ _ = _
      rw [show decide (((c + 1 : Nat) : Int) > 0) = true from decide_eq_true (by omega), cond_true]
      show bnd (make_Type_eb1 (1 : Nat) (Dk L (mkTypes L j a0).2)) _ = _
      rw [bnd_eq (typeEq hL 1 (by omega) _)]
      show gd ((mkTypes L j a0).1.length + 1) _ = _
      rw [gd_ok (by rw [mkTypes_len]; omega)]
      show loopN _ m ((mkTypes L (j + 1) a0).1, w64 (((c + 1 : Nat) : Int) - 1), ((mkTypes L (j + 1) a0).2 : Int)) = _
      rw [show w64 (((c + 1 : Nat) : Int) - 1) = ((c : Nat) : Int) by rw [w64_id (by omega) (by omega)]; omega, ih (j + 1) m (by omega) (by omega)]
      rw [show j + 1 + c = j + (c + 1) by omega]
theorem ctxEq {L : List Int} (hL : L.length ≤ 500) (a : Nat) : make_Context_6f7 (Dk L a) = some ((mkCtx L a).1, ((mkCtx L a).2 : Int)) := by
  unfold make_Context_6f7
  rw [bnd_eq (nextEq hL (by omega) a)]
  have hr := next_range L a (n := 4) (by omega) (by omega)
  have := ctx_loop hL 0 (next L 4 a).2 (next L 4 a).1.toNat 0 FU (by omega) (by unfold FU; omega)
  rw [Nat.zero_add] at this
  rw [show (((next L 4 a).1.toNat : Nat) : Int) = (next L 4 a).1 by omega] at this
  exact this
theorem getD_rev (g : List Typ) (i : Nat) (h : i < g.length) : g[g.length - 1 - i]? = some (g.getD (g.length - 1 - i) .zero) := by
  have : g.length - 1 - i < g.length := by omega
  simp [List.getElem?_eq_getElem this]
theorem rev_idx {R : Type} {g : List Typ} (hg : g.length ≤ 1000000) {i : Nat} (h : i < g.length) {k : Typ → Option R} : idx g (w64 ((w64 (((g.length : Nat) : Int) - 1)) - (i : Int))) k = k (g.getD (g.length - 1 - i) .zero) := by
  rw [w64_id (x := ((g.length : Nat) : Int) - 1) (by omega) (by omega), w64_id (by omega) (by omega)]
  rw [show ((g.length : Nat) : Int) - 1 - (i : Int) = ((g.length - 1 - i : Nat) : Int) by omega]
  exact idx_nat (getD_rev g i h)
theorem vars_loop {g : List Typ} {t : Typ} (hg : g.length ≤ 1000000) (hs : ∀ u ∈ g, u.sz ≤ 1000000) : ∀ (l : List Typ) (i : Nat) (x : List Int), i + l.length = g.length → x.length ≤ i →
    loopL (fun x5 => some x5) (fun k2 i3 (a1 : Typ) (x5 : List Int) => idx g (w64 ((w64 (((g.length : Nat) : Int) - 1)) - (i3 : Int))) fun a30 => bnd (ref01_Same a30 t) fun r33 => cond r33 (gd (x5.length + 1) (k2 (x5 ++ [(i3 : Int)]))) (k2 x5)) i l x =
      some (x ++ ((List.range' i l.length).filter (varB g t)).map Int.ofNat)
  | [], i, x, _, _ => by simp [loopL_nil]
  | a :: l, i, x, hi, hx => by
    simp only [List.length_cons] at hi
    have hsz : (g.getD (g.length - 1 - i) .zero).sz ≤ 1000000 := hs _ (by
      have := getD_rev g i (by omega)
      exact List.mem_of_getElem? this)
    rw [loopL_cons, rev_idx hg (by omega), bnd_eq (sameTyEq _ t hsz)]
    simp only [List.length_cons, List.range'_succ, List.filter_cons]
    have hv : varB g t i = (g.getD (g.length - 1 - i) .zero).same t := rfl
    rw [hv]
    cases (g.getD (g.length - 1 - i) .zero).same t with
    | true =>
      rw [cond_true, gd_ok (by omega), vars_loop hg hs l (i + 1) _ (by omega) (by simp; omega)]
      simp
    | false =>
      rw [cond_false, vars_loop hg hs l (i + 1) _ (by omega) (by omega)]
      simp
theorem varsEq (g : List Typ) (t : Typ) (hg : g.length ≤ 1000000) (hs : ∀ u ∈ g, u.sz ≤ 1000000) : make_vars g t = some (mkVars g t) := by
  unfold make_vars mkVars
  rw [vars_loop hg hs g 0 [] (by omega) (by simp), List.range_eq_range']
  rfl
theorem longerEq (g l : List Typ) (h : g.length + l.length ≤ 2000000000) : make_longer g l = some (g ++ l) := by
  unfold make_longer; rw [gd_ok (by omega), gd_ok h]
theorem numeral_loop : ∀ (n m j : Nat), n < m → n ≤ 5000 →
    loopN (fun k3 (x4 : Int × Trm) => cond (decide (x4.1 > 0)) (k3 ((w64 (x4.1 - 1)), (Trm.mk 5 0 (Typ.mk 0 ([] : List Typ)) [x4.2]))) (some x4.2)) m ((n : Int), num j) = some (num (j + n))
  | 0, m, j, h, _ => by
    cases m with
    | zero => omega
    | succ m => rfl
  | n + 1, m, j, h, hb => by
    cases m with
    | zero => omega
    | succ m =>
      show cond (decide (((n + 1 : Nat) : Int) > 0)) _ _ = _
      rw [decide_eq_true (by omega), cond_true]
      show loopN _ m (w64 (((n + 1 : Nat) : Int) - 1), num (j + 1)) = _
      rw [show w64 (((n + 1 : Nat) : Int) - 1) = (n : Int) by rw [w64_id (by omega) (by omega)]; omega, numeral_loop n m (j + 1) (by omega) (by omega)]
      rw [show j + 1 + n = j + (n + 1) by omega]
theorem numEq {n : Int} (h0 : 0 ≤ n) (h1 : n < 4096) : make_Num n = some (num n.toNat) := by
  unfold make_Num ref05_Number
  rw [decide_eq_false (by omega), cond_false, decide_eq_false (by omega), cond_false]
  have : ref05_numeral n = some (num n.toNat) := by
    unfold ref05_numeral
    rw [bnd_eq (nodeN 4 [] (by simp [bigTms]))]
    have := numeral_loop n.toNat FU 0 (by unfold FU; omega) (by omega)
    rw [Nat.zero_add, show ((n.toNat : Nat) : Int) = n by omega] at this
    exact this
  rw [bnd_eq this]; rfl
theorem plusEq : ref05_Plus () = some plusT := by kernel_rfl
theorem subEq : ref05_Sub () = some subT := by kernel_rfl
theorem appEq2 (f a b : Trm) (h : f.big + a.big + b.big ≤ 900000) : make_App f [a, b] = some (appT f [a, b]) := by
  unfold make_App
  simp only [loopL_cons, loopL_nil]
  rw [bnd_eq (nodeN 3 [f, a] (by simp [bigTms]; omega)), bnd_eq (nodeN 3 [tm 3 [f, a], b] (by simp [bigTms, tm, Trm.big, Typ.zero, Typ.sz, szTys]; omega))]
  rfl
end Go.AM

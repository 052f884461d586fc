/-
  The laws SubstSizes and SubstLifts: what the printed functions reckon is true.
-/
import Derived.Test.YtdbgmmeenljnoaaDoorAnY
set_option linter.unusedVariables false
set_option linter.unusedSimpArgs false
set_option maxHeartbeats 4000000
namespace Go.AM
open Go
theorem putFEq {t s : Trm} {b : Nat} (hb : t.big ≤ 1000000) (hsb : s.big ≤ 1000000) (he : t.err = 0) (hse : s.err = 0) (hs : t.shape = true) (hi : t.idxB 536870912 = true) (hsi : s.idxB 536870912 = true) {a : Nat} (ha : a ≤ 4096)
    (hz : t.sz + t.cnt a 0 * (s.sz - 1) ≤ 4096) : subst_Put t a s = some (t.put a s, 0) := by
  have hsz := t.sz_le_big
  have hsz2 := s.sz_le_big
  have hp := s.sz_pos
  unfold subst_Put
  have w1 : within (a : Int) = true := by unfold within; rw [decide_eq_true (by omega), decide_eq_true (by omega)]; rfl
  have c0 := (count_eq a (by omega) hs hi (by omega)).1
  have n1 : t.near = true := by rw [near_eq]; exact hi
  have n2 : s.near = true := by rw [near_eq]; exact hsi
  have e1 : w64 ((s.sz : Int) - 1) = ((s.sz - 1 : Nat) : Int) := by rw [w64_id (by omega) (by omega)]; omega
  have e2 : w64 (((t.cnt a 0 : Nat) : Int) * ((s.sz - 1 : Nat) : Int)) = ((t.cnt a 0 * (s.sz - 1) : Nat) : Int) := by
    rw [← Int.natCast_mul, w64_id (by omega) (by omega)]
  have e3 : w64 ((t.sz : Int) + ((t.cnt a 0 * (s.sz - 1) : Nat) : Int)) = ((t.sz + t.cnt a 0 * (s.sz - 1) : Nat) : Int) := by
    rw [w64_id (by omega) (by omega)]; omega
  rw [bnd_eq (sizeTm t hb), he, bnd_eq (within_eq _), w1, bnd_eq (sizeTm s hsb), hse, bnd_eq (nearEq t (by omega)), n1, bnd_eq (nearEq s (by omega)), n2, bnd_eq (countEq t _ (by omega)), c0, bnd_eq (putEq t a s hb hsb)]
  simp only [if_true]
  rw [e1, e2, e3, decide_eq_false (by omega)]
  rfl
/-- The terms of the laws. -/
structure Made (g : List Typ) (x : Trm) (u : Typ) (n : Nat) : Prop where
  ty : HasT g x u
  sz : x.sz ≤ n
  big : x.big ≤ 64000
  sh : x.shape = true
  ix : x.idxB 536870912 = true
  er : x.err = 0
theorem made3 (L : List Int) {g : List Typ} (hg : ∀ u ∈ g, sm u) (hl : g.length ≤ 16) {t : Typ} (ht : sm t) (a : Nat) : Made g (mkTerm L 100 3 g t a).1 t 3560 ∧ (mkTerm L 100 3 g t a).1.sz + (mkTerm L 100 3 g t a).1.cnt 0 0 * 99 ≤ 3560 := by
  have hf : fuelOk 100 3 t := .inr ⟨by omega, by omega⟩
  have h1 := mkTerm_typed L 100 3 g t a ht hg (by omega) hf
  have h2 := mkTerm_wt L (w := 100) (by omega) 100 3 g t a ht hg hf
  have h3 := mkTerm_64k L 100 3 g t a (sm_ok ht) (fun u hu => sm_ok (hg u hu)) hf (by omega)
  have h4 : ww 100 (Int.toNat 3) t ≤ 3560 := by unfold ww; split <;> decide
  have h5 : (mkTerm L 100 3 g t a).1.sz + (mkTerm L 100 3 g t a).1.cnt 0 0 * 99 ≤ (mkTerm L 100 3 g t a).1.wt 100 0 := wt_cnt 99 (mkTerm L 100 3 g t a).1 0
  have hz : (mkTerm L 100 3 g t a).1.sz ≤ 3560 := by omega
  exact ⟨⟨h1, hz, h3, shape_of h1, idxB_of h1 (by omega), err_zero (shape_of h1) (by omega)⟩, by omega⟩
theorem made2 (L : List Int) {g : List Typ} (hg : ∀ u ∈ g, sm u) (hl : g.length ≤ 16) {t : Typ} (ht : sm t) (a : Nat) : Made g (mkTerm L 100 2 g t a).1 t 76 := by
  have hf : fuelOk 100 2 t := .inr ⟨by omega, by omega⟩
  have h1 := mkTerm_typed L 100 2 g t a ht hg (by omega) hf
  have h2 := mkTerm_wt L (w := 1) (by omega) 100 2 g t a ht hg hf
  have h3 := mkTerm_64k L 100 2 g t a (sm_ok ht) (fun u hu => sm_ok (hg u hu)) hf (by omega)
  have h4 : ww 1 (Int.toNat 2) t ≤ 76 := by unfold ww; split <;> decide
  have h5 : (mkTerm L 100 2 g t a).1.sz + (mkTerm L 100 2 g t a).1.cnt 0 0 * 0 ≤ (mkTerm L 100 2 g t a).1.wt 1 0 := wt_cnt 0 (mkTerm L 100 2 g t a).1 0
  have hz : (mkTerm L 100 2 g t a).1.sz ≤ 76 := by omega
  exact ⟨h1, hz, h3, shape_of h1, idxB_of h1 (by omega), err_zero (shape_of h1) (by omega)⟩
theorem type1Eq {L : List Int} (hL : L.length ≤ 500) (a : Nat) : make_Type_eb1 1 (Dk L a) = some ((mkType L 1 a).1, ((mkType L 1 a).2 : Int)) := typeEq hL 1 (by omega) a
theorem term3Eq {L : List Int} (hL : L.length ≤ 500) {g : List Typ} (hg : ∀ u ∈ g, sm u) (hl : g.length ≤ 16) {t : Typ} (ht : sm t) (a : Nat) : make_Term_02b g t 3 (Dk L a) = en2 (mkTerm L 100 3 g t a) :=
  termEq hL 3 (by omega) g t a (sm_ok ht) (fun w hw => sm_ok (hg w hw)) (by omega) (.inr ⟨by omega, by omega⟩)
theorem term2Eq {L : List Int} (hL : L.length ≤ 500) {g : List Typ} (hg : ∀ u ∈ g, sm u) (hl : g.length ≤ 16) {t : Typ} (ht : sm t) (a : Nat) : make_Term_02b g t 2 (Dk L a) = en2 (mkTerm L 100 2 g t a) :=
  termEq hL 2 (by omega) g t a (sm_ok ht) (fun w hw => sm_ok (hg w hw)) (by omega) (.inr ⟨by omega, by omega⟩)
/-! ### SubstSizes -/
def g1 (x : Bool × List Int) (a : Int) : Bool × List Int := cond (a == 0) (true, x.2) (x.1, addK x.2 (w64 (a - 1)))
theorem loop1 {R : Type} {fin : Bool × List (Int × Bool) → Option R} : ∀ (l : List Int) (i : Nat) (x : Bool × List Int),
    loopL fin (fun k34 i35 a33 x37 => cond (a33 == 0) (k34 (true, x37.2)) (k34 (x37.1, (mset x37.2 (w64 (a33 - 1)) true)))) i l (x.1, tr x.2) = fin ((l.foldl g1 x).1, tr (l.foldl g1 x).2)
  | [], i, x => rfl
  | a :: l, i, x => by
    rw [loopL_cons, List.foldl_cons]
    have ih := loop1 (fin := fin) l (i + 1) (g1 x a)
    rw [← ih]
    unfold g1
    cases a == 0 with
    | true => rfl
    | false => simp only [cond_false, tr_set]
theorem loop2 {R : Type} {fin : List (Int × Bool) → Option R} (has : Bool) : ∀ (l : List Int) (i : Nat) (x : List Int),
    loopL fin (fun k54 i55 a53 x57 => cond has (k54 (mset x57 a53 true)) (k54 x57)) i l (tr x) = fin (tr (cond has (l.foldl addK x) x))
  | [], i, x => by cases has <;> rfl
  | a :: l, i, x => by
    rw [loopL_cons]
    cases has with
    | true => simp only [cond_true, tr_set, List.foldl_cons]; exact loop2 true l (i + 1) (addK x a)
    | false => simp only [cond_false]; exact loop2 false l (i + 1) x
theorem loop3 {R : Type} {fin : Unit → Option R} {bad : Option R} (w : List Int) : ∀ (l : List Int) (i : Nat), (∀ v ∈ l, v ∈ w) →
    loopL fin (fun k68 i69 a67 (x71 : Unit) => cond (!((mget (tr w) a67).getD false)) bad (k68 ())) i l () = fin ()
  | [], i, _ => rfl
  | a :: l, i, h => by
    rw [loopL_cons, tr_get, show w.contains a = true by simpa using h a List.mem_cons_self]
    exact loop3 w l (i + 1) fun v hv => h v (List.mem_cons_of_mem _ hv)
theorem g1_has : ∀ (l : List Int) (x : Bool × List Int), (l.foldl g1 x).1 = (x.1 || l.contains 0)
  | [], x => by simp
  | a :: l, x => by
    rw [List.foldl_cons, g1_has l, List.contains_cons]
    unfold g1
    by_cases h : a = 0
    · subst h; simp
    · have e1 : (a == 0) = false := by simpa using h
      have e2 : ((0 : Int) == a) = false := by simpa using fun e => h e.symm
      rw [e1, e2]; rfl
theorem g1_mem (v : Int) : ∀ (l : List Int) (x : Bool × List Int), v ∈ (l.foldl g1 x).2 ↔ v ∈ x.2 ∨ ∃ a ∈ l, a ≠ 0 ∧ v = w64 (a - 1)
  | [], x => by simp
  | a :: l, x => by
    rw [List.foldl_cons, g1_mem v l]
    simp only [List.mem_cons, exists_eq_or_imp]
    unfold g1
    by_cases h : a = 0
    · subst h; simp
    · have e1 : (a == 0) = false := by simpa using h
      rw [e1, cond_false, addK_mem]
      simp only [ne_eq, h, not_false_eq_true, true_and, or_assoc]
theorem g1_nodup : ∀ (l : List Int) (x : Bool × List Int), x.2.Nodup → (l.foldl g1 x).2.Nodup
  | [], x, h => h
  | a :: l, x, h => by
    rw [List.foldl_cons]
    refine g1_nodup l _ ?_
    unfold g1
    cases a == 0 with
    | true => exact h
    | false => exact addK_nodup h
theorem addKs_mem (v : Int) : ∀ (l s : List Int), v ∈ l.foldl addK s ↔ v ∈ s ∨ v ∈ l
  | [], s => by simp
  | a :: l, s => by rw [List.foldl_cons, addKs_mem v l, addK_mem]; simp [or_assoc]
theorem addKs_nodup : ∀ (l s : List Int), s.Nodup → (l.foldl addK s).Nodup
  | [], s, h => h
  | a :: l, s, h => by rw [List.foldl_cons]; exact addKs_nodup l _ (addK_nodup h)
theorem sizes_law (L : List Int) : law03_SubstSizes L = some true := by
  unfold law03_SubstSizes
  rw [bnd_eq saneEq, Bool.not_true, cond_false]
  have hfew : make_Few L = some (decide (((L.length : Nat) : Int) ≤ 500)) := rfl
  rw [bnd_eq hfew]
  by_cases hL : L.length ≤ 500
  rotate_left
  · rw [decide_eq_false (by omega)]; rfl
  rw [decide_eq_true (by omega), Bool.not_true, cond_false]
  have hnew : make_New L = some (L, 0) := rfl
  rw [bnd_eq hnew]
  dsimp only
  rw [bnd_eq (show make_Context_6f7 ⟨L, 0⟩ = _ from ctxEq hL 0)]
  have hcl : (mkCtx L 0).1.length ≤ 3 := mkCtx_len L 0
  have hcs : ∀ u ∈ (mkCtx L 0).1, sm u := mkCtx_sm L 0
  generalize mkCtx L 0 = c at *
  dsimp only
  rw [bnd_eq (type1Eq hL c.2)]
  have hs : sm (mkType L 1 c.2).1 := mkType_sm L c.2
  generalize mkType L 1 c.2 = s at *
  dsimp only
  rw [gd_ok (by omega), gd_ok (by omega), bnd_eq (type1Eq hL s.2)]
  have hu : sm (mkType L 1 s.2).1 := mkType_sm L s.2
  generalize mkType L 1 s.2 = u at *
  dsimp only
  rw [bnd_eq (term3Eq hL (sext hcs hs) (by simp; omega) hu u.2)]
  obtain ⟨mx, hcx⟩ := made3 L (sext hcs hs) (by simp; omega) hu u.2
  generalize mkTerm L 100 3 (c.1 ++ [s.1]) u.1 u.2 = x at *
  dsimp only
  rw [bnd_eq (term2Eq hL hcs (by omega) hs x.2)]
  have my := made2 L hcs (by omega) hs x.2
  generalize mkTerm L 100 2 c.1 s.1 x.2 = y at *
  dsimp only
  have hyp := y.1.sz_pos
  have ysz := my.sz
  have xsz := mx.sz
  have xb := mx.big
  have yb := my.big
  have hcm : x.1.cnt 0 0 * (y.1.sz - 1) ≤ x.1.cnt 0 0 * 99 := Nat.mul_le_mul (Nat.le_refl _) (by omega)
  have hp : subst_Put x.1 0 y.1 = some (x.1.put 0 y.1, 0) := putFEq (b := 0) (a := 0) (by omega) (by omega) mx.er my.er mx.sh mx.ix my.ix (by omega) (by omega)
  have hzs : (x.1.put 0 y.1).sz = x.1.sz + x.1.cnt 0 0 * (y.1.sz - 1) := sz_put_eq y.1 my.sh x.1 mx.sh mx.ix 0 (by omega)
  have hzt := put_typed my.ty (by omega) mx.ty (by simp; omega)
  have hzh := shape_of hzt
  have hzi := idxB_of hzt (by omega)
  have hze := err_zero hzh (by omega)
  have hzb := big_of_shape _ hzh
  have hfr : ∀ v : Int, 0 ≤ v → (x.1.put 0 y.1).fr v 0 = (x.1.fr (v + 1) 0 || (x.1.fr 0 0 && y.1.fr v 0)) := fun v hv => fr_put y.1 my.sh my.ix (by omega) v hv x.1 mx.sh mx.ix 0 (by omega)
  rw [bnd_eq hp]
  dsimp only
  generalize x.1.put 0 y.1 = z at *
  rw [bnd_eq (usesEq x.1 (by omega) mx.er mx.sh mx.ix), bnd_eq (usesEq y.1 (by omega) my.er my.sh my.ix), bnd_eq (usesEq z (by omega) hze hzh hzi)]
  dsimp only
  simp only [bne_self_eq_false, cond_false]
  have m1 : ∀ v, v ∈ sortI (x.1.keys 0 []) ↔ 0 ≤ v ∧ x.1.fr v 0 = true := fun v => uses_mem mx.sh mx.ix (by omega)
  have m2 : ∀ v, v ∈ sortI (y.1.keys 0 []) ↔ 0 ≤ v ∧ y.1.fr v 0 = true := fun v => uses_mem my.sh my.ix (by omega)
  have m3 : ∀ v, v ∈ sortI (z.keys 0 []) ↔ 0 ≤ v ∧ z.fr v 0 = true := fun v => uses_mem hzh hzi (by omega)
  have n3 : (sortI (z.keys 0 [])).Nodup := sortI_nodup (keys_nodup List.nodup_nil)
  generalize sortI (x.1.keys 0 []) = p at *
  generalize sortI (y.1.keys 0 []) = q at *
  generalize sortI (z.keys 0 []) = r at *
  have l1 := loop1 (R := Bool) (fin := fun x37 => loopL (fun x57 => loopL (fun x71 => bnd (law03_nodesOf y.1) fun r74 => cond (decide ((w64 (r74 - 1)) > 0)) (bnd (law03_nodesOf z) fun r77 => bnd (law03_nodesOf x.1) fun r79 => nz (w64 (r74 - 1)) (law03_SubstSizes_k1 (r, 0) x57 (Int.tmod (w64 (r77 - r79)) (w64 (r74 - 1))))) (law03_SubstSizes_k1 (r, 0) x57 0)) (fun k68 i69 a67 x71 => cond (!((mget x57 a67).getD false)) (some false) (k68 ())) 0 r ()) (fun k54 i55 a53 x57 => cond x37.1 (k54 (mset x57 a53 true)) (k54 x57)) 0 q x37.2) p 0 (false, [])
  refine l1.trans ?_
  dsimp only
  rw [loop2]
  let W := cond (p.foldl g1 (false, [])).1 (q.foldl addK (p.foldl g1 (false, [])).2) (p.foldl g1 (false, [])).2
  have hWm : ∀ v, v ∈ W ↔ v ∈ r := fun v => by
    have h1 : v ∈ (p.foldl g1 (false, [])).2 ↔ (0 ≤ v ∧ x.1.fr (v + 1) 0 = true) := by
      rw [g1_mem]
      simp only [List.not_mem_nil, false_or]
      constructor
      · rintro ⟨a, ha, h0, rfl⟩
        have := (m1 a).1 ha
        have hle := fr_le a x.1 mx.ix 0 this.2
        rw [w64_id (by omega) (by omega)]
        refine ⟨by omega, ?_⟩
        rw [show a - 1 + 1 = a by omega]; exact this.2
      · rintro ⟨h0, h1⟩
        have hle := fr_le (v + 1) x.1 mx.ix 0 h1
        exact ⟨v + 1, (m1 _).2 ⟨by omega, h1⟩, by omega, by rw [w64_id (by omega) (by omega)]; omega⟩
    have h2 : (p.foldl g1 (false, [])).1 = true ↔ x.1.fr 0 0 = true := by
      rw [g1_has, Bool.false_or]
      have := m1 0
      simp only [Int.le_refl, true_and] at this
      rw [← this]; simp
    rw [m3]
    show v ∈ cond _ _ _ ↔ _
    cases hh : (p.foldl g1 (false, [])).1 with
    | true =>
      have hx0 := h2.1 hh
      rw [cond_true, addKs_mem, h1, m2]
      constructor
      · rintro (⟨a, b⟩ | ⟨a, b⟩)
        · exact ⟨a, by rw [hfr v a, b]; rfl⟩
        · exact ⟨a, by rw [hfr v a, hx0, b]; simp⟩
      · rintro ⟨a, b⟩
        rw [hfr v a, hx0, Bool.true_and, Bool.or_eq_true] at b
        exact b.elim (fun b => .inl ⟨a, b⟩) (fun b => .inr ⟨a, b⟩)
    | false =>
      have hx0 : x.1.fr 0 0 = false := by
        cases h : x.1.fr 0 0 with
        | false => rfl
        | true => rw [h2.2 h] at hh; cases hh
      rw [cond_false, h1]
      constructor
      · rintro ⟨a, b⟩; exact ⟨a, by rw [hfr v a, b]; rfl⟩
      · rintro ⟨a, b⟩
        rw [hfr v a, hx0, Bool.false_and, Bool.or_false] at b
        exact ⟨a, b⟩
  have hWn : W.Nodup := by
    have := g1_nodup p (false, []) List.nodup_nil
    cases hh : (p.foldl g1 (false, [])).1 with
    | true => show (cond (p.foldl g1 (false, [])).1 _ _ : List Int).Nodup; rw [hh]; exact addKs_nodup _ _ this
    | false => show (cond (p.foldl g1 (false, [])).1 _ _ : List Int).Nodup; rw [hh]; exact this
  have hlen : r.length = W.length := ((List.perm_ext_iff_of_nodup n3 hWn).2 fun v => (hWm v).symm).length_eq
  rw [show cond (p.foldl g1 (false, [])).1 (q.foldl addK (p.foldl g1 (false, [])).2) (p.foldl g1 (false, [])).2 = W from rfl]
  rw [loop3 W r 0 fun v hv => (hWm v).2 hv]
  have hk : ∀ k : Int, k = 0 → law03_SubstSizes_k1 (r, 0) (tr W) k = some true := fun k hk => by
    unfold law03_SubstSizes_k1
    subst hk
    rw [tr_len, nat_beq, hlen, beq_self_eq_true]
    rfl
  rw [bnd_eq (nodesEq y.1 (by omega)), bnd_eq (nodesEq z (by omega)), bnd_eq (nodesEq x.1 (by omega))]
  rw [w64_id (x := ((y.1.sz : Nat) : Int) - 1) (by omega) (by omega)]
  by_cases hy1 : ((y.1.sz : Nat) : Int) - 1 > 0
  · rw [decide_eq_true hy1, cond_true, nz_ok (by omega)]
    refine hk _ ?_
    rw [w64_id (by omega) (by omega), hzs]
    have : ((x.1.sz + x.1.cnt 0 0 * (y.1.sz - 1) : Nat) : Int) - ((x.1.sz : Nat) : Int) = (((y.1.sz : Nat) : Int) - 1) * ((x.1.cnt 0 0 : Nat) : Int) := by
      have e : ((y.1.sz - 1 : Nat) : Int) = ((y.1.sz : Nat) : Int) - 1 := by omega
      rw [Int.natCast_add, Int.natCast_mul, e, Int.mul_comm]
      generalize (((y.1.sz : Nat) : Int) - 1) * ((x.1.cnt 0 0 : Nat) : Int) = q
      omega
    rw [this]
    exact Int.mul_tmod_right _ _
  · rw [decide_eq_false hy1, cond_false]
    exact hk 0 rfl
/-! ### SubstLifts -/
theorem idxB_mono {N N' : Int} (h : N ≤ N') (t : Trm) : t.idxB N = true → t.idxB N' = true := by
  induction t using Trm.ind with
  | _ k i ty l ih =>
    intro hi
    simp only [Trm.idxB, Bool.and_eq_true, Bool.or_eq_true, idxBs_all, List.all_eq_true, decide_eq_true_eq] at hi ⊢
    exact ⟨hi.1.imp id fun h' => Int.le_trans h' h, fun a ha => ih a ha (hi.2 a ha)⟩
theorem idxB_of1 {g : List Typ} {t : Trm} {u : Typ} (h : HasT g t u) : g.length + t.sz ≤ 1000000 → t.idxB 1000000 = true := by
  induction h with
  | var h => intro hb; simp [Trm.var, Trm.idxB, idxBs]; omega
  | lam h1 h2 h3 ih => intro hb; rw [sz_tm1] at hb; simp [Trm.idxB, idxBs]; exact ih (by simp; omega)
  | app h1 h2 i1 i2 => intro hb; rw [tm, sz_tm2] at hb; simp [tm, Trm.idxB, idxBs]; exact ⟨i1 (by omega), i2 (by omega)⟩
  | zero => intro _; rfl
  | succ h1 i1 => intro hb; rw [tm, sz_tm1] at hb; simp [tm, Trm.idxB, idxBs]; exact i1 (by omega)
  | recu h1 h2 h3 h4 i2 i3 i4 => intro hb; rw [sz_tm3] at hb; simp [Trm.idxB, idxBs]; exact ⟨i2 (by omega), i3 (by omega), i4 (by omega)⟩
  | nil => intro _; rfl
  | cons h1 h2 i1 i2 => intro hb; rw [tm, sz_tm2] at hb; simp [tm, Trm.idxB, idxBs]; exact ⟨i1 (by omega), i2 (by omega)⟩
  | fold h1 h2 h3 h4 i2 i3 i4 => intro hb; rw [sz_tm3] at hb; simp [Trm.idxB, idxBs]; exact ⟨i2 (by omega), i3 (by omega), i4 (by omega)⟩
  | pair h1 h2 h3 i2 i3 => intro hb; rw [tm, sz_tm2] at hb; simp [tm, Trm.idxB, idxBs]; exact ⟨i2 (by omega), i3 (by omega)⟩
  | fst h1 i1 => intro hb; rw [tm, sz_tm1] at hb; simp [tm, Trm.idxB, idxBs]; exact i1 (by omega)
  | snd h1 i1 => intro hb; rw [tm, sz_tm1] at hb; simp [tm, Trm.idxB, idxBs]; exact i1 (by omega)
  | unit => intro _; rfl
def up (a k v : Int) : Int := if decide (v ≥ a) then v + k else v
theorem up_inj {a k : Int} (hk : 0 ≤ k) {v w : Int} (h : up a k v = up a k w) : v = w := by
  unfold up at h
  split at h <;> split at h <;> simp_all <;> omega
theorem addK_map {f : Int → Int} (hf : ∀ v w, f v = f w → v = w) (s : List Int) (v : Int) : addK (s.map f) (f v) = (addK s v).map f := by
  unfold addK
  have : (s.map f).contains (f v) = s.contains v := by
    rw [Bool.eq_iff_iff]
    simp only [List.contains_iff_mem, List.mem_map]
    exact ⟨fun ⟨w, hw, e⟩ => hf _ _ e ▸ hw, fun h => ⟨v, h, rfl⟩⟩
  rw [this]
  cases s.contains v <;> simp
theorem keys_lift (a n : Nat) (h : a + n ≤ 1000000) (t : Trm) : t.shape = true → t.idxB 536870912 = true → ∀ (b : Nat) (s : List Int), b + t.sz ≤ 1000000 → (t.rebuild (liftAt a n) b).keys b (s.map (up a n)) = (t.keys b s).map (up a n) := by
  induction t using Trm.ind with
  | _ k i ty l ih =>
    intro hs hi b s hb
    have H := tm1 hs hi
    rw [Trm.sz_mk] at hb
    by_cases hk : k = 1
    · subst hk
      obtain ⟨rfl, rfl⟩ := H.vr rfl
      have hub := H.ub rfl
      have hnn := H.nn
      show (liftAt a n i b).keys b (s.map (up a n)) = _
      unfold liftAt
      rw [keys_mk, Trm.var, keys_mk]
      simp only [beq_self_eq_true, if_true, List.foldl_nil]
      unfold keyF
      rw [w64_id (x := i - b) (by omega) (by omega), w64_id (x := i + n) (by omega) (by omega)]
      have inj : ∀ v w, up a n v = up a n w → v = w := fun v w e => up_inj (by omega) e
      by_cases hc : i - b ≥ a
      · have e1 : decide (i - (b : Int) ≥ (a : Int)) = true := decide_eq_true hc
        have e2 : decide (i + (n : Int) ≥ (b : Int)) = true := decide_eq_true (by omega)
        have e3 : decide (i ≥ (b : Int)) = true := decide_eq_true (by omega)
        simp only [e1, if_true, e2, e3]
        rw [w64_id (by omega) (by omega), ← addK_map inj]
        congr 1
        unfold up; rw [e1]; simp; omega
      · have e1 : decide (i - (b : Int) ≥ (a : Int)) = false := decide_eq_false hc
        simp only [e1, Bool.false_eq_true, if_false]
        split
        · rw [w64_id (by omega) (by omega), ← addK_map inj]
          congr 1
          unfold up; rw [e1]; rfl
        · rfl
    · have e1 : (k == 1) = false := by simpa using hk
      rw [rebuild_node _ _ _ _ _ _ e1, keys_mk, keys_mk, next_b (by omega), e1]
      simp only [Bool.false_eq_true, if_false]
      have : ∀ (l : List Trm), (∀ x ∈ l, ∀ s : List Int, (x.rebuild (liftAt a n) ((if k == 2 then b + 1 else b : Nat) : Int)).keys ((if k == 2 then b + 1 else b : Nat) : Int) (s.map (up a n)) = (x.keys ((if k == 2 then b + 1 else b : Nat) : Int) s).map (up a n)) →
          ∀ s : List Int, (l.map (·.rebuild (liftAt a n) ((if k == 2 then b + 1 else b : Nat) : Int))).foldl (fun s x => x.keys ((if k == 2 then b + 1 else b : Nat) : Int) s) (s.map (up a n)) = (l.foldl (fun s x => x.keys ((if k == 2 then b + 1 else b : Nat) : Int) s) s).map (up a n) := by
        intro l
        induction l with
        | nil => intro _ s; rfl
        | cons x l ih2 =>
          intro h s
          simp only [List.map_cons, List.foldl_cons]
          rw [h x List.mem_cons_self, ih2 fun y hy => h y (List.mem_cons_of_mem _ hy)]
      exact this l (fun x hx s => ih x hx (H.sh x hx) (H.ix x hx) _ s (bz hx (by omega))) s
theorem sortI_map {f : Int → Int} (hf : ∀ v w, v ≤ w → f v ≤ f w) (l : List Int) : sortI (l.map f) = (sortI l).map f := by
  have hp : (l.map f).Perm ((sortI l).map f) := ((List.mergeSort_perm l _).symm).map f
  have h1 : sortI (l.map f) = sortI ((sortI l).map f) := mergeSort_of_perm_i hp
  rw [h1]
  refine List.mergeSort_of_pairwise ?_
  have tr : ∀ a b c : Int, decide (a ≤ b) = true → decide (b ≤ c) = true → decide (a ≤ c) = true := fun a b c h1 h2 => by simp only [decide_eq_true_eq] at *; exact Int.le_trans h1 h2
  have to : ∀ a b : Int, (decide (a ≤ b) || decide (b ≤ a)) = true := fun a b => by simp only [Bool.or_eq_true, decide_eq_true_eq]; exact Int.le_total a b
  have hs : (sortI l).Pairwise (fun a b => decide (a ≤ b) = true) := List.pairwise_mergeSort tr to l
  rw [List.pairwise_map]
  exact hs.imp fun h => by simp only [decide_eq_true_eq] at *; exact hf _ _ h
theorem mod5 {f : Int} (h0 : 0 ≤ f) (h1 : f < 256) : ∃ n : Nat, w64 (Int.tmod f 5) = (n : Int) ∧ n ≤ 4 := by
  have h2 := Int.tmod_nonneg 5 h0
  have h3 := Int.tmod_lt_of_pos f (show (0 : Int) < 5 by omega)
  exact ⟨(Int.tmod f 5).toNat, by rw [w64_id (by omega) (by omega)]; omega, by omega⟩
theorem lifts_loop (a k : Int) (hk : 0 ≤ k ∧ k ≤ 8) (z : Int) (q0 : List Int) : ∀ (l : List Int) (i : Nat), (∀ v ∈ l, 0 ≤ v ∧ v ≤ 536870912) → (l.map (up a k) = q0.drop i) →
    loopL (fun (_ : Unit) => some true) (fun k44 i45 a43 (_ : Unit) => cond (decide (a43 ≥ a)) (law03_SubstLifts_k1 (q0, z) i45 k44 (w64 (a43 + k))) (law03_SubstLifts_k1 (q0, z) i45 k44 a43)) i l () = some true
  | [], i, _, _ => rfl
  | v :: l, i, hb, he => by
    have hv := hb v List.mem_cons_self
    simp only [List.map_cons] at he
    have hi : q0[i]? = some (up a k v) := by
      have := congrArg List.head? he
      simpa [List.head?_drop] using this.symm
    have ht : l.map (up a k) = q0.drop (i + 1) := by
      have := congrArg List.tail he
      simpa [List.tail_drop] using this
    have ih := lifts_loop a k hk z q0 l (i + 1) (fun w hw => hb w (List.mem_cons_of_mem _ hw)) ht
    rw [loopL_cons]
    have key : ∀ w, w = up a k v → law03_SubstLifts_k1 (q0, z) i (loopL (fun (_ : Unit) => some true) (fun k44 i45 a43 (_ : Unit) => cond (decide (a43 ≥ a)) (law03_SubstLifts_k1 (q0, z) i45 k44 (w64 (a43 + k))) (law03_SubstLifts_k1 (q0, z) i45 k44 a43)) (i + 1) l) w = some true := fun w hw => by
      unfold law03_SubstLifts_k1
      dsimp only
      rw [idx_nat hi, hw, bne_self_eq_false, cond_false]
      exact ih
    by_cases hc : v ≥ a
    · rw [decide_eq_true hc, cond_true, w64_id (by omega) (by omega)]
      exact key _ (by unfold up; rw [decide_eq_true hc]; rfl)
    · rw [decide_eq_false hc, cond_false]
      exact key _ (by unfold up; rw [decide_eq_false hc]; rfl)
theorem lifts_law (L : List Int) (f1 f2 f3 : Int) (h1 : 0 ≤ f1 ∧ f1 < 256) (h2 : 0 ≤ f2 ∧ f2 < 256) (h3 : 0 ≤ f3 ∧ f3 < 256) : law03_SubstLifts L f1 f2 f3 = some true := by
  unfold law03_SubstLifts
  rw [bnd_eq saneEq, Bool.not_true, cond_false]
  have hfew : make_Few L = some (decide (((L.length : Nat) : Int) ≤ 500)) := rfl
  rw [bnd_eq hfew]
  by_cases hL : L.length ≤ 500
  rotate_left
  · rw [decide_eq_false (by omega)]; rfl
  rw [decide_eq_true (by omega), Bool.not_true, cond_false]
  have hnew : make_New L = some (L, 0) := rfl
  rw [bnd_eq hnew]
  dsimp only
  rw [bnd_eq (show make_Context_6f7 ⟨L, 0⟩ = _ from ctxEq hL 0)]
  have hcl : (mkCtx L 0).1.length ≤ 3 := mkCtx_len L 0
  have hcs : ∀ u ∈ (mkCtx L 0).1, sm u := mkCtx_sm L 0
  generalize mkCtx L 0 = c at *
  dsimp only
  rw [bnd_eq (type1Eq hL c.2)]
  have hs : sm (mkType L 1 c.2).1 := mkType_sm L c.2
  generalize mkType L 1 c.2 = s at *
  dsimp only
  rw [bnd_eq (term3Eq hL hcs (by omega) hs s.2)]
  obtain ⟨mx, _⟩ := made3 L hcs (by omega) hs s.2
  generalize mkTerm L 100 3 c.1 s.1 s.2 = x at *
  dsimp only
  obtain ⟨a, ea, ha⟩ := mod5 h1.1 h1.2
  obtain ⟨n, en, hn⟩ := mod5 h2.1 h2.2
  obtain ⟨m, em, hm⟩ := mod5 h3.1 h3.2
  have enm : w64 ((n : Int) + (m : Int)) = ((n + m : Nat) : Int) := by rw [w64_id (by omega) (by omega)]; omega
  rw [ea, en, em, enm]
  have xsz := mx.sz
  have xb := mx.big
  have q1 : ∀ k : Nat, k ≤ 8 → (x.1.lift a k).shape = true ∧ (x.1.lift a k).idxB 536870912 = true ∧ (x.1.lift a k).sz = x.1.sz ∧ (x.1.lift a k).err = 0 ∧ (x.1.lift a k).big ≤ 1000000 := fun k hk => by
    have ix0 : x.1.idxB 1000000 = true := idxB_of1 mx.ty (by omega)
    have l1 := idx_lift a k (by omega) 1000000 (by omega) x.1 mx.sh ix0 0 (by omega)
    have hsh : (x.1.lift a k).shape = true := l1.2
    have hz := sz_lift mx.sh (a : Int) (k : Int)
    have hbg := big_of_shape _ hsh
    exact ⟨hsh, idxB_mono (by omega) _ l1.1, hz, err_zero hsh (by omega), by omega⟩
  have e1 : subst_Lift x.1 a 1 = some (x.1.lift a 1, 0) := liftFEq (y := 1) (by omega) mx.er mx.ix (by omega) (by omega)
  have e2 : subst_Lift x.1 a n = some (x.1.lift a n, 0) := liftFEq (by omega) mx.er mx.ix (by omega) (by omega)
  have e4 : subst_Lift x.1 a ((n + m : Nat) : Int) = some (x.1.lift a ((n + m : Nat) : Int), 0) := liftFEq (by omega) mx.er mx.ix (by omega) (by omega)
  obtain ⟨s1, i1, z1, r1, b1⟩ := q1 1 (by omega)
  obtain ⟨s2, i2, z2, r2, b2⟩ := q1 n (by omega)
  obtain ⟨s4, i4, z4, r4, b4⟩ := q1 (n + m) (by omega)
  rw [show ((1 : Nat) : Int) = 1 from rfl] at s1 i1 z1 r1 b1
  have pl := put_lift a (by omega) .zero x.1 mx.sh mx.ix 0 (by omega)
  have e5 : subst_Lower (x.1.lift a 1) a = some (x.1, 0) := by
    rw [lowerFEq b1 r1 s1 i1 (by omega) pl.2]
    exact congrArg (fun t => some (t, (0 : Int))) pl.1
  have e6 : subst_Lift (x.1.lift a n) a m = some (x.1.lift a ((n + m : Nat) : Int), 0) := by
    rw [liftFEq b2 r2 i2 (by omega) (by omega)]
    exact congrArg (fun t => some (t, (0 : Int))) (lift_lift a n m (by omega) x.1 mx.sh mx.ix 0 (by omega))
  rw [bnd_eq e1, bnd_eq e5, bnd_eq e2, bnd_eq e6, bnd_eq e4, bnd_eq (usesEq x.1 (by omega) mx.er mx.sh mx.ix), bnd_eq (usesEq _ b4 r4 s4 i4)]
  dsimp only
  have hkeys : (x.1.lift a ((n + m : Nat) : Int)).keys 0 [] = (x.1.keys 0 []).map (up a ((n + m : Nat) : Int)) := keys_lift a (n + m) (by omega) x.1 mx.sh mx.ix 0 [] (by omega)
  have hq : sortI ((x.1.lift a ((n + m : Nat) : Int)).keys 0 []) = (sortI (x.1.keys 0 [])).map (up a ((n + m : Nat) : Int)) := by
    rw [hkeys]
    exact sortI_map (fun v w h => by unfold up; split <;> split <;> simp_all <;> omega) _
  have hv : ∀ v ∈ sortI (x.1.keys 0 []), 0 ≤ v ∧ v ≤ 536870912 := fun v h => by
    have := (uses_mem mx.sh mx.ix (by omega)).1 h
    exact ⟨this.1, fr_le v x.1 mx.ix 0 this.2⟩
  rw [hq]
  generalize sortI (x.1.keys 0 []) = p at *
  have ss1 : x.1.same x.1 = true := (sameTm_eq _ _).2 rfl
  have ss2 : (x.1.lift a ((n + m : Nat) : Int)).same (x.1.lift a ((n + m : Nat) : Int)) = true := (sameTm_eq _ _).2 rfl
  simp only [bne_self_eq_false, cond_false]
  rw [bnd_eq (sameTmEq x.1 x.1 (by omega)), ss1, bnd_eq (sameTmEq _ _ b4), ss2]
  simp only [Bool.not_true, cond_false, List.length_map, bne_self_eq_false]
  have := lifts_loop a ((n + m : Nat) : Int) ⟨by omega, by omega⟩ 0 (p.map (up a ((n + m : Nat) : Int))) p 0 hv (by simp)
  exact this
end Go.AM

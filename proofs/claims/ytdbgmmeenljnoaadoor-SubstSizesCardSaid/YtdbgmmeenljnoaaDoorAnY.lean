/-
  The free variables as the program lists them; the laws SubstSizes and SubstLifts in plain terms.
-/
import Derived.Test.YtdbgmmeenljnoaaDoorAnX
set_option linter.unusedVariables false
set_option linter.unusedSimpArgs false
set_option maxHeartbeats 4000000
namespace Go.AM
open Go
/-! ### Lists of keys -/
def addK (s : List Int) (v : Int) : List Int := cond (s.contains v) s (s ++ [v])
theorem addK_mem {s : List Int} {v a : Int} : v ∈ addK s a ↔ v ∈ s ∨ v = a := by
  unfold addK
  cases h : s.contains a with
  | true =>
    have : a ∈ s := by simpa using h
    simp only [cond_true]
    exact ⟨.inl, fun h => h.elim id fun e => e ▸ this⟩
  | false => simp
theorem addK_nodup {s : List Int} {a : Int} (h : s.Nodup) : (addK s a).Nodup := by
  unfold addK
  cases hc : s.contains a with
  | true => exact h
  | false =>
    have : a ∉ s := by simpa using hc
    simp only [cond_false]
    rw [List.nodup_append]
    exact ⟨h, by simp, fun x hx y hy e => by simp at hy; subst hy; subst e; exact this hx⟩
theorem addK_len (s : List Int) (a : Int) : (addK s a).length ≤ s.length + 1 := by unfold addK; cases s.contains a <;> simp
def tr (s : List Int) : List (Int × Bool) := s.map fun k => (k, true)
theorem tr_set (s : List Int) (a : Int) : mset (tr s) a true = tr (addK s a) := by
  unfold addK tr
  induction s with
  | nil => rfl
  | cons b s ih =>
    simp only [List.map_cons, mset, List.contains_cons]
    by_cases hb : b = a
    · subst hb; simp
    · have e1 : (b == a) = false := by simpa using hb
      have e2 : (a == b) = false := by simpa using fun h => hb h.symm
      rw [e1, e2, cond_false, Bool.false_or, ih]
      cases s.contains a <;> rfl
theorem tr_get (s : List Int) (a : Int) : (mget (tr s) a).getD false = s.contains a := by
  unfold tr
  induction s with
  | nil => rfl
  | cons b s ih =>
    simp only [List.map_cons, mget, List.contains_cons]
    by_cases hb : b = a
    · subst hb; simp
    · have e1 : (b == a) = false := by simpa using hb
      have e2 : (a == b) = false := by simpa using fun h => hb h.symm
      rw [e1, e2, cond_false, Bool.false_or, ih]
theorem tr_keys (s : List Int) : (tr s).map (·.1) = s := by simp [tr, Function.comp_def]
theorem tr_len (s : List Int) : (tr s).length = s.length := by simp [tr]
theorem each_hom {S S' : Type} (φ : S → S') {f : S → Int → Int → S} {f' : S' → Int → Int → S'} (h : ∀ s i b, φ (f s i b) = f' (φ s) i b) (t : Trm) : ∀ (b : Int) (s : S), φ (t.each f b s) = t.each f' b (φ s) := by
  induction t using Trm.ind with
  | _ k i ty l ih =>
    intro b s
    rw [each_mk, each_mk]
    have : ∀ (l : List Trm), (∀ a ∈ l, ∀ (b : Int) (s : S), φ (a.each f b s) = a.each f' b (φ s)) → ∀ (b : Int) (s : S), φ (l.foldl (fun s a => a.each f b s) s) = l.foldl (fun s a => a.each f' b s) (φ s) := by
      intro l
      induction l with
      | nil => intro _ b s; rfl
      | cons a l ih2 => intro h b s; simp only [List.foldl_cons]; rw [ih2 (fun x hx => h x (List.mem_cons_of_mem _ hx)), h a List.mem_cons_self]
    rw [this l ih]
    congr 1
    cases k == 1 with
    | true => simp only [if_true, h]
    | false => rfl
theorem each_inv {S : Type} (p : S → Prop) {f : S → Int → Int → S} (h : ∀ s i b, p s → p (f s i b)) (t : Trm) : ∀ (b : Int) (s : S), p s → p (t.each f b s) := by
  induction t using Trm.ind with
  | _ k i ty l ih =>
    intro b s hp
    rw [each_mk]
    have : ∀ (l : List Trm), (∀ a ∈ l, ∀ (b : Int) (s : S), p s → p (a.each f b s)) → ∀ (b : Int) (s : S), p s → p (l.foldl (fun s a => a.each f b s) s) := by
      intro l
      induction l with
      | nil => intro _ b s hp; exact hp
      | cons a l ih2 => intro h b s hp; exact ih2 (fun x hx => h x (List.mem_cons_of_mem _ hx)) b _ (h a List.mem_cons_self b s hp)
    refine this l ih _ _ ?_
    split
    · exact h _ _ _ hp
    · exact hp
def keyF (s : List Int) (i b : Int) : List Int := if decide (i ≥ b) then addK s (w64 (i - b)) else s
def Trm.keys (t : Trm) (b : Int) (s : List Int) : List Int := t.each keyF b s
theorem keys_nodup {t : Trm} {b : Int} {s : List Int} (h : s.Nodup) : (t.keys b s).Nodup := each_inv (fun s => s.Nodup) (fun s i b hs => by unfold keyF; split; exact addK_nodup hs; exact hs) t b s h
theorem keys_mk (k i : Int) (ty : Typ) (l : List Trm) (b : Int) (s : List Int) : (Trm.mk k i ty l).keys b s = l.foldl (fun s a => a.keys (if k == 2 then w64 (b + 1) else b) s) (if k == 1 then keyF s i b else s) := each_mk ..
theorem keys_len (t : Trm) : ∀ (b : Int) (s : List Int), (t.keys b s).length ≤ s.length + t.sz := by
  induction t using Trm.ind with
  | _ k i ty l ih =>
    intro b s
    rw [keys_mk, Trm.sz_mk]
    have : ∀ (l : List Trm), (∀ a ∈ l, ∀ (b : Int) (s : List Int), (a.keys b s).length ≤ s.length + a.sz) → ∀ (b : Int) (s : List Int), (l.foldl (fun s a => a.keys b s) s).length ≤ s.length + szTms l := by
      intro l
      induction l with
      | nil => intro _ b s; simp [szTms]
      | cons a l ih2 =>
        intro h b s
        have q1 := ih2 (fun x hx => h x (List.mem_cons_of_mem _ hx)) b (a.keys b s)
        have q2 := h a List.mem_cons_self b s
        simp only [List.foldl_cons, szTms]; omega
    have q := this l ih (if k == 2 then w64 (b + 1) else b) (if k == 1 then keyF s i b else s)
    have q2 : (if k == 1 then keyF s i b else s).length ≤ s.length + 1 := by
      unfold keyF
      have := addK_len s (w64 (i - b))
      split
      · split <;> omega
      · omega
    omega
theorem foldl_mem_any {p : Trm → Prop} {g : List Int → Trm → List Int} {v : Int} : ∀ (l : List Trm) (s : List Int), (∀ a ∈ l, ∀ s, v ∈ g s a ↔ v ∈ s ∨ p a) → (v ∈ l.foldl g s ↔ v ∈ s ∨ ∃ a ∈ l, p a)
  | [], s, _ => by simp
  | a :: l, s, h => by
    simp only [List.foldl_cons]
    rw [foldl_mem_any l _ fun b hb => h b (List.mem_cons_of_mem _ hb), h a List.mem_cons_self]
    simp only [List.mem_cons, exists_eq_or_imp, or_assoc]
theorem keys_mem (v : Int) (t : Trm) : t.shape = true → t.idxB 536870912 = true → ∀ (b : Nat) (s : List Int), b + t.sz ≤ 1000000 → (v ∈ t.keys b s ↔ v ∈ s ∨ (0 ≤ v ∧ t.fr v b = true)) := by
  induction t using Trm.ind with
  | _ k i ty l ih =>
    intro hs hi b s hb
    have H := tm1 hs hi
    rw [Trm.sz_mk] at hb
    rw [keys_mk, next_b (by omega)]
    rw [foldl_mem_any (p := fun a => 0 ≤ v ∧ a.fr v (if k == 2 then b + 1 else b) = true) l _ fun a ha s => ih a ha (H.sh a ha) (H.ix a ha) _ s (bz ha (by omega))]
    rw [fr_mk]
    by_cases hk : k = 1
    · subst hk
      obtain ⟨rfl, rfl⟩ := H.vr rfl
      have hub := H.ub rfl
      have hnn := H.nn
      unfold keyF
      simp only [beq_self_eq_true, if_true, Bool.true_and, List.any_nil, Bool.or_false, beq_iff_eq, List.not_mem_nil, false_and, exists_false, or_false]
      rw [w64_id (by omega) (by omega)]
      split
      · rename_i h
        have h := of_decide_eq_true h
        rw [addK_mem]
        refine or_congr Iff.rfl ⟨fun e => by subst e; omega, fun e => by omega⟩
      · rename_i h
        have h : ¬ (i ≥ b) := by simpa using h
        exact ⟨.inl, fun e => e.elim id fun e => by omega⟩
    · have e1 : (k == 1) = false := by simpa using hk
      rw [e1]
      simp only [Bool.false_eq_true, if_false, Bool.false_and, Bool.false_or, List.any_eq_true]
      refine or_congr Iff.rfl ⟨fun ⟨a, ha, h0, h1⟩ => ⟨h0, a, ha, h1⟩, fun ⟨h0, a, ha, h1⟩ => ⟨a, ha, h0, h1⟩⟩
theorem fr_le (v : Int) (t : Trm) : t.idxB 536870912 = true → ∀ b : Nat, t.fr v b = true → v ≤ 536870912 := by
  induction t using Trm.ind with
  | _ k i ty l ih =>
    intro hi b h
    simp only [Trm.idxB, Bool.and_eq_true, idxBs_all, List.all_eq_true] at hi
    rw [fr_mk, Bool.or_eq_true, List.any_eq_true] at h
    rcases h with h | ⟨a, ha, h⟩
    · rw [Bool.and_eq_true, beq_iff_eq, beq_iff_eq] at h
      have : k = 1 := h.1
      subst this
      have : i ≤ 536870912 := by simpa using hi.1
      omega
    · exact ih a ha (hi.2 a ha) _ h
/-! ### What the printed functions reckon -/
theorem usesEach_m (t : Trm) : ∀ (m : Nat) (b : Int) (s : List (Int × Bool)), t.sz ≤ m → tree_Each_1_8ac_m m t b s = some (t.each (fun s i b => if decide (i ≥ b) then mset s (w64 (i - b)) true else s) b s) := by
  induction t using Trm.ind with
  | _ k i ty l ih =>
    intro m b s hm
    rw [Trm.sz_mk] at hm
    cases m with
    | zero => omega
    | succ m =>
      have hk2 : ∀ (b : Int) (s : List (Int × Bool)), tree_Each_1_8ac_k2 (fun t b s => tree_Each_1_8ac_m m t b s) (.mk k i ty l) s b = some (l.foldl (fun s a => a.each (fun s i b => if decide (i ≥ b) then mset s (w64 (i - b)) true else s) b s) s) := fun b s => by
        unfold tree_Each_1_8ac_k2
        exact loopL_fold (self := fun a x => tree_Each_1_8ac_m m a b x) (fun a ha x => ih a ha m b x (by have : a.sz ≤ szTms l := szTms_mem ha; omega))
      rw [each_mk]
      show tree_Each_1_8ac_b (fun t b s => tree_Each_1_8ac_m m t b s) (.mk k i ty l) b s = _
      unfold tree_Each_1_8ac_b tree_Each_1_8ac_k1 subst_Uses_1_595
      show cond (k == 1) (bnd (cond (decide (i ≥ b)) _ _) fun r2 => cond (k == 2) _ _) (cond (k == 2) _ _) = _
      cases k == 1 <;> cases k == 2 <;> cases decide (i ≥ b) <;> simp only [cond_true, cond_false, bnd_some, hk2] <;> rfl
theorem usesEq (t : Trm) (hb : t.big ≤ 1000000) (h : t.err = 0) (hs : t.shape = true) (hi : t.idxB 536870912 = true) : subst_Uses t = some (sortI (t.keys 0 []), 0) := by
  have hsz := t.sz_le_big
  unfold subst_Uses
  rw [bnd_eq (checkTm t hb), h]
  show bnd (tree_Each_ba6 t []) _ = _
  have e1 : tree_Each_ba6 t [] = some (tr (t.keys 0 [])) := by
    unfold tree_Each_ba6
    rw [bnd_id]
    refine (usesEach_m t FU 0 [] (by unfold FU; omega)).trans ?_
    have := each_hom tr (f := keyF) (f' := fun s i b => if decide (i ≥ b) then mset s (w64 (i - b)) true else s) (fun s i b => by
      unfold keyF
      cases decide (i ≥ b) with
      | true => simp only [if_true, tr_set]
      | false => rfl) t 0 []
    exact congrArg some this.symm
  rw [bnd_eq e1]
  show bnd (sortedKeysI (tr (t.keys 0 []))) _ = _
  have e2 : sortedKeysI (tr (t.keys 0 [])) = some (sortI (t.keys 0 [])) := by
    unfold sortedKeysI
    rw [tr_keys]
    have hl := keys_len t 0 []
    have : keysOk (t.keys 0 []) = true := by
      simp only [keysOk, Bool.and_eq_true, ndB_iff, List.all_eq_true]
      refine ⟨decide_eq_true (by simp at hl; omega), fun v hv => ?_, keys_nodup List.nodup_nil⟩
      have := (keys_mem v t hs hi 0 [] (by omega)).1 hv
      simp only [List.not_mem_nil, false_or] at this
      have h2 := fr_le v t hi 0 this.2
      simp only [inI, Bool.and_eq_true]
      exact ⟨decide_eq_true (by omega), decide_eq_true (by omega)⟩
    rw [this]; rfl
  rw [bnd_eq e2]
theorem sortI_mem {l : List Int} {v : Int} : v ∈ sortI l ↔ v ∈ l := List.mem_mergeSort
theorem sortI_nodup {l : List Int} (h : l.Nodup) : (sortI l).Nodup := (List.mergeSort_perm l _).nodup_iff.2 h
theorem uses_mem {t : Trm} (hs : t.shape = true) (hi : t.idxB 536870912 = true) (hb : t.sz ≤ 1000000) {v : Int} : v ∈ sortI (t.keys 0 []) ↔ 0 ≤ v ∧ t.fr v 0 = true := by
  have h := keys_mem v t hs hi 0 [] (by omega)
  rw [show ((0 : Nat) : Int) = 0 from rfl] at h
  rw [sortI_mem, h]; simp
theorem nodesOf_m (t : Trm) : ∀ m : Nat, t.sz ≤ m → t.sz ≤ 1000000 → law03_nodesOf_m m t = some ((t.sz : Nat) : Int) := by
  induction t using Trm.ind with
  | _ k i ty l ih =>
    intro m hm hs
    rw [Trm.sz_mk] at hm hs
    cases m with
    | zero => omega
    | succ m =>
      have : ∀ (l : List Trm) (j x : Nat), (∀ a ∈ l, law03_nodesOf_m m a = some ((a.sz : Nat) : Int)) → x + szTms l ≤ 1000000 →
          loopL (fun x5 => some x5) (fun k2 i3 a1 x5 => bnd (law03_nodesOf_m m a1) fun r13 => k2 (w64 (x5 + r13))) j l ((x : Nat) : Int) = some ((x + szTms l : Nat) : Int) := by
        intro l
        induction l with
        | nil => intro j x _ _; rfl
        | cons a l ih2 =>
          intro j x h hx
          simp only [szTms] at hx
          rw [loopL_cons, bnd_eq (h a List.mem_cons_self), w64_id (by omega) (by omega), ← Int.natCast_add, ih2 _ _ (fun y hy => h y (List.mem_cons_of_mem _ hy)) (by omega)]
          simp only [szTms, Nat.add_assoc]
      show law03_nodesOf_b (fun t => law03_nodesOf_m m t) (.mk k i ty l) = _
      rw [Trm.sz_mk]
      exact this l 0 1 (fun a ha => ih a ha m (by have : a.sz ≤ szTms l := szTms_mem ha; omega) (by have : a.sz ≤ szTms l := szTms_mem ha; omega)) (by omega)
theorem nodesEq (t : Trm) (h : t.sz ≤ 1000000) : law03_nodesOf t = some ((t.sz : Nat) : Int) := nodesOf_m t FU (by unfold FU; omega) h
theorem saneEq : law03_sane () = some true := by kernel_rfl
theorem liftFEq {t : Trm} (hb : t.big ≤ 1000000) (he : t.err = 0) (hi : t.idxB 536870912 = true) {a y : Nat} (ha : a ≤ 4096) (hy : y ≤ 4096) : subst_Lift t a y = some (t.lift a y, 0) := by
  have hsz := t.sz_le_big
  unfold subst_Lift
  have w1 : within (a : Int) = true := by unfold within; rw [decide_eq_true (by omega), decide_eq_true (by omega)]; rfl
  have w2 : within (y : Int) = true := by unfold within; rw [decide_eq_true (by omega), decide_eq_true (by omega)]; rfl
  have n1 : t.near = true := by rw [near_eq]; exact hi
  rw [bnd_eq (checkTm t hb), he, bnd_eq (within_eq _), w1, bnd_eq (within_eq _), w2, bnd_eq (nearEq t (by omega)), n1, bnd_eq (liftEq t _ _ hb)]
  rfl
theorem lowerFEq {t : Trm} (hb : t.big ≤ 1000000) (he : t.err = 0) (hs : t.shape = true) (hi : t.idxB 536870912 = true) {a : Nat} (ha : a ≤ 4096) (hc : t.cnt a 0 = 0) : subst_Lower t a = some (t.put a .zero, 0) := by
  have hsz := t.sz_le_big
  unfold subst_Lower
  have w1 : within (a : Int) = true := by unfold within; rw [decide_eq_true (by omega), decide_eq_true (by omega)]; rfl
  have c0 : t.count (a : Int) = 0 := by rw [(count_eq a (by omega) hs hi (by omega)).1, hc]; rfl
  have p0 : tree_Put t a (Trm.mk 0 0 (Typ.mk 0 ([] : List Typ)) ([] : List Trm)) = some (t.put a .zero) := putEq t a .zero hb (by decide)
  rw [bnd_eq (checkTm t hb), he, bnd_eq (within_eq _), w1, bnd_eq (countEq t _ (by omega)), c0, bnd_eq p0]
  rfl
end Go.AM

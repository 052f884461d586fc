/-
  Free variables: the plain law of what is put in, lifted and lowered; the printed functions about them.
  The free variables as the program lists them; the laws SubstSizes and SubstLifts in plain terms.
-/
import Derived.Test.YtdbgmmeenljnoaaGreatDoorZdAnV
set_option linter.unusedVariables false
set_option linter.unusedSimpArgs false
set_option maxHeartbeats 4000000
namespace Go.AM
open Go
/-! ### Free variables -/
mutual
def Trm.fr (v : Int) : Trm → Nat → Bool
  | .mk k i _ l, b => (k == 1 && i == v + (b : Int)) || frs v l (if k == 2 then b + 1 else b)
def frs (v : Int) : List Trm → Nat → Bool
  | [], _ => false
  | a :: l, b => a.fr v b || frs v l b
end
theorem frs_any (v : Int) (b : Nat) : ∀ l : List Trm, frs v l b = l.any fun a => a.fr v b
  | [] => rfl
  | a :: l => by simp [frs, frs_any v b l]
theorem fr_mk (v : Int) (k i : Int) (ty : Typ) (l : List Trm) (b : Nat) : (Trm.mk k i ty l).fr v b = ((k == 1 && i == v + (b : Int)) || l.any fun a => a.fr v (if k == 2 then b + 1 else b)) := by
  simp only [Trm.fr, frs_any]
theorem fr_var (v i : Int) (b : Nat) : (Trm.var i).fr v b = (i == v + (b : Int)) := by simp [Trm.var, fr_mk]
theorem idxBs_all (N : Int) : ∀ l : List Trm, idxBs N l = l.all fun a => a.idxB N
  | [] => rfl
  | a :: l => by simp [idxBs, idxBs_all N l]
theorem cnts_sum (v b : Nat) : ∀ l : List Trm, cnts v l b = (l.map fun a => a.cnt v b).sum
  | [] => rfl
  | a :: l => by simp [cnts, cnts_sum v b l]
/-- What is known of a right term's parts. -/
structure Tm1 (k i : Int) (ty : Typ) (l : List Trm) : Prop where
  nn : 0 ≤ i
  vr : k = 1 → l = [] ∧ ty = .zero
  sh : ∀ a ∈ l, a.shape = true
  ix : ∀ a ∈ l, a.idxB 536870912 = true
  ub : k = 1 → i ≤ 536870912
theorem none_is {t : Typ} (h : t.none = true) : t = .zero := by
  obtain ⟨k, l⟩ := t
  simp only [Typ.none, Typ.kind, Typ.args, Bool.and_eq_true, beq_iff_eq] at h
  obtain ⟨rfl, h⟩ := h
  rw [List.eq_nil_of_length_eq_zero h]; rfl
theorem tm1 {k i : Int} {ty : Typ} {l : List Trm} (hs : (Trm.mk k i ty l).shape = true) (hi : (Trm.mk k i ty l).idxB 536870912 = true) : Tm1 k i ty l := by
  rw [Trm.shape_iff] at hs
  obtain ⟨h1, h2, h3, h4, h5⟩ := hs
  simp only [Trm.idxB, Bool.and_eq_true, idxBs_all, List.all_eq_true] at hi
  refine ⟨h2, fun e => ?_, h5, hi.2, fun e => ?_⟩
  · subst e
    have ha : arity 1 = some 0 := rfl
    rw [ha] at h1
    injection h1 with h1
    exact ⟨List.eq_nil_of_length_eq_zero h1.symm, none_is (by simpa [typed] using h4)⟩
  · subst e; simpa using hi.1
theorem next_b {k : Int} {b : Nat} (h : b ≤ 2000000) : (if (k == 2) = true then w64 ((b : Int) + 1) else (b : Int)) = ((if k == 2 then b + 1 else b : Nat) : Int) := by
  split
  · rw [w64_id (by omega) (by omega)]; omega
  · rfl
theorem b_le (k : Int) (b : Nat) : (if k == 2 then b + 1 else b) ≤ b + 1 := by split <;> omega
theorem bz {k : Int} {l : List Trm} {a : Trm} {b N : Nat} (ha : a ∈ l) (h : b + (1 + szTms l) ≤ N) : (if k == 2 then b + 1 else b) + a.sz ≤ N := by
  have : a.sz ≤ szTms l := szTms_mem ha
  have := b_le k b
  omega
/-- Lifting, at whatever depth. -/
theorem fr_lift (n : Nat) (hn : n ≤ 1000000) (v : Int) (hv : 0 ≤ v) (t : Trm) : t.shape = true → t.idxB 536870912 = true → ∀ c : Nat, c + t.sz ≤ 1000000 → (t.rebuild (liftAt 0 n) c).fr v (c + n) = t.fr v c := by
  induction t using Trm.ind with
  | _ k i ty l ih =>
    intro hs hi c hc
    have H := tm1 hs hi
    rw [Trm.sz_mk] at hc
    by_cases hk : k = 1
    · subst hk
      obtain ⟨rfl, rfl⟩ := H.vr rfl
      have hub := H.ub rfl
      have hnn := H.nn
      show (liftAt 0 n i c).fr v (c + n) = _
      unfold liftAt
      rw [w64_id (x := i - c) (by omega) (by omega), w64_id (x := i + n) (by omega) (by omega), fr_var, fr_mk]
      simp only [beq_self_eq_true, Bool.true_and, List.any_nil, Bool.or_false]
      rw [Bool.eq_iff_iff, beq_iff_eq, beq_iff_eq]
      split
      · omega
      · rename_i h; simp at h; omega
    · have e1 : (k == 1) = false := by simpa using hk
      rw [rebuild_node _ _ _ _ _ _ e1, next_b (by omega), fr_mk, fr_mk, e1]
      simp only [Bool.false_and, Bool.false_or, List.any_map]
      have hb : (if k == 2 then c + n + 1 else c + n) = (if k == 2 then c + 1 else c) + n := by split <;> omega
      rw [hb]
      have key : ∀ a ∈ l, (a.rebuild (liftAt 0 n) ((if k == 2 then c + 1 else c : Nat) : Int)).fr v ((if k == 2 then c + 1 else c) + n) = a.fr v (if k == 2 then c + 1 else c) := fun a ha =>
        ih a ha (H.sh a ha) (H.ix a ha) _ (bz ha (by omega))
      rw [Bool.eq_iff_iff, List.any_eq_true, List.any_eq_true]
      exact ⟨fun ⟨a, ha, h⟩ => ⟨a, ha, by rw [← key a ha]; exact h⟩, fun ⟨a, ha, h⟩ => ⟨a, ha, by show Trm.fr _ _ _ = true; rw [key a ha]; exact h⟩⟩
/-- What is free where a term was put in. -/
theorem fr_put (y : Trm) (hy : y.shape = true) (hyi : y.idxB 536870912 = true) (hys : y.sz ≤ 100000) (v : Int) (hv : 0 ≤ v) (t : Trm) : t.shape = true → t.idxB 536870912 = true → ∀ b : Nat, b + t.sz ≤ 900000 →
    (t.rebuild (putAt 0 y) b).fr v b = (t.fr (v + 1) b || (t.fr 0 b && y.fr v 0)) := by
  induction t using Trm.ind with
  | _ k i ty l ih =>
    intro hs hi b hb
    have H := tm1 hs hi
    rw [Trm.sz_mk] at hb
    by_cases hk : k = 1
    · subst hk
      obtain ⟨rfl, rfl⟩ := H.vr rfl
      have hub := H.ub rfl
      have hnn := H.nn
      show (putAt 0 y i b).fr v b = _
      unfold putAt
      rw [w64_id (x := i - b) (by omega) (by omega), w64_id (x := i - 1) (by omega) (by omega), fr_mk, fr_mk]
      simp only [beq_self_eq_true, Bool.true_and, List.any_nil, Bool.or_false, Int.zero_add]
      by_cases hc : i = b
      · subst hc
        rw [if_pos (by simp), w64_id (by omega) (by omega)]
        have := fr_lift b (by omega) v hv y hy hyi 0 (by omega)
        rw [Nat.zero_add] at this
        rw [show (y.lift 0 (b : Int)).fr v b = y.fr v 0 from this]
        have : ((b : Int) == v + 1 + (b : Int)) = false := by simp; omega
        rw [this]; simp
      · rw [if_neg (by simp; omega)]
        have e2 : (i == (b : Int)) = false := by simpa using hc
        rw [e2, Bool.false_and, Bool.or_false, Bool.eq_iff_iff, beq_iff_eq]
        split
        · rw [fr_var, beq_iff_eq]; omega
        · rename_i h; simp at h; rw [fr_var, beq_iff_eq]; omega
    · have e1 : (k == 1) = false := by simpa using hk
      rw [rebuild_node _ _ _ _ _ _ e1, next_b (by omega), fr_mk, fr_mk, fr_mk, e1]
      simp only [Bool.false_and, Bool.false_or, List.any_map]
      have key : ∀ a ∈ l, (a.rebuild (putAt 0 y) ((if k == 2 then b + 1 else b : Nat) : Int)).fr v (if k == 2 then b + 1 else b) = (a.fr (v + 1) (if k == 2 then b + 1 else b) || (a.fr 0 (if k == 2 then b + 1 else b) && y.fr v 0)) := fun a ha =>
        ih a ha (H.sh a ha) (H.ix a ha) _ (bz ha (by omega))
      rw [Bool.eq_iff_iff]
      simp only [List.any_eq_true, Bool.or_eq_true, Bool.and_eq_true, Function.comp]
      constructor
      · rintro ⟨a, ha, h⟩
        rw [key a ha] at h
        simp only [Bool.or_eq_true, Bool.and_eq_true] at h
        rcases h with h | ⟨h, h'⟩
        · exact .inl ⟨a, ha, h⟩
        · exact .inr ⟨⟨a, ha, h⟩, h'⟩
      · rintro (⟨a, ha, h⟩ | ⟨⟨a, ha, h⟩, h'⟩)
        · exact ⟨a, ha, by rw [key a ha, h]; rfl⟩
        · exact ⟨a, ha, by rw [key a ha, h, h']; simp⟩
/-- How large it becomes, exactly. -/
theorem sz_put_eq (y : Trm) (hy : y.shape = true) (t : Trm) : t.shape = true → t.idxB 536870912 = true → ∀ b : Nat, b + t.sz ≤ 1000000 → (t.rebuild (putAt 0 y) b).sz = t.sz + t.cnt 0 b * (y.sz - 1) := by
  have hyp := y.sz_pos
  induction t using Trm.ind with
  | _ k i ty l ih =>
    intro hs hi b hb
    have H := tm1 hs hi
    rw [Trm.sz_mk] at hb
    simp only [Trm.cnt, cnts_sum]
    by_cases hk : k = 1
    · subst hk
      obtain ⟨rfl, rfl⟩ := H.vr rfl
      have hub := H.ub rfl
      have hnn := H.nn
      show (putAt 0 y i b).sz = _
      unfold putAt
      rw [w64_id (x := i - b) (by omega) (by omega)]
      simp only [Trm.sz_mk, szTms, beq_self_eq_true, Bool.true_and, List.map_nil, List.sum_nil, Nat.add_zero]
      have hone : ∀ j : Int, (Trm.var j).sz = 1 := fun _ => rfl
      by_cases hc : i = b
      · rw [if_pos (by simp; omega), sz_lift hy, if_pos (by simp; omega)]; omega
      · rw [if_neg (by simp; omega)]
        have e2 : (i == (b : Int)) = false := by simpa using hc
        rw [e2]
        split <;> rw [hone] <;> simp
    · have e1 : (k == 1) = false := by simpa using hk
      rw [rebuild_node _ _ _ _ _ _ e1, next_b (by omega), Trm.sz_mk, Trm.sz_mk, e1]
      simp only [Bool.false_and, Bool.false_eq_true, if_false, Nat.zero_add]
      have hl : ∀ (l : List Trm), (∀ a ∈ l, (a.rebuild (putAt 0 y) ((if k == 2 then b + 1 else b : Nat) : Int)).sz = a.sz + a.cnt 0 (if k == 2 then b + 1 else b) * (y.sz - 1)) →
          szTms (l.map (·.rebuild (putAt 0 y) ((if k == 2 then b + 1 else b : Nat) : Int))) = szTms l + (l.map fun a => a.cnt 0 (if k == 2 then b + 1 else b)).sum * (y.sz - 1) := by
        intro l
        induction l with
        | nil => intro _; simp [szTms]
        | cons a l ih2 =>
          intro h
          simp only [List.map_cons, szTms, List.sum_cons, Nat.add_mul]
          rw [h a List.mem_cons_self, ih2 fun x hx => h x (List.mem_cons_of_mem _ hx)]
          omega
      rw [hl l fun a ha => ih a ha (H.sh a ha) (H.ix a ha) _ (bz ha (by omega))]
      omega
/-- What was lifted away is lowered back. -/
theorem put_lift (at_ : Nat) (hat : at_ ≤ 1000000) (z : Trm) (t : Trm) : t.shape = true → t.idxB 536870912 = true → ∀ b : Nat, b + t.sz ≤ 1000000 → (t.rebuild (liftAt at_ 1) b).rebuild (putAt at_ z) b = t ∧ (t.rebuild (liftAt at_ 1) b).cnt at_ b = 0 := by
  induction t using Trm.ind with
  | _ k i ty l ih =>
    intro hs hi b hb
    have H := tm1 hs hi
    rw [Trm.sz_mk] at hb
    by_cases hk : k = 1
    · subst hk
      obtain ⟨rfl, rfl⟩ := H.vr rfl
      have hub := H.ub rfl
      have hnn := H.nn
      show (liftAt at_ 1 i b).rebuild (putAt at_ z) b = .var i ∧ (liftAt at_ 1 i b).cnt at_ b = 0
      unfold liftAt
      rw [w64_id (x := i - b) (by omega) (by omega), w64_id (x := i + 1) (by omega) (by omega), rebuild_var]
      by_cases hc : i - b ≥ at_
      · have e : decide (i - (b : Int) ≥ (at_ : Int)) = true := decide_eq_true hc
        simp only [e, if_true]
        unfold putAt
        have f1 : (w64 (i + 1 - b) == (at_ : Int)) = false := by rw [w64_id (by omega) (by omega)]; simp; omega
        have f2 : decide (w64 (i + 1 - b) > (at_ : Int)) = true := by rw [w64_id (by omega) (by omega)]; exact decide_eq_true (by omega)
        have f3 : w64 (i + 1 - 1) = i := by rw [w64_id (by omega) (by omega)]; omega
        simp only [f1, f2, f3, Bool.false_eq_true, if_false, if_true]
        refine ⟨trivial, ?_⟩
        simp [Trm.var, Trm.cnt, cnts]; omega
      · have e : decide (i - (b : Int) ≥ (at_ : Int)) = false := decide_eq_false hc
        simp only [e, Bool.false_eq_true, if_false]
        unfold putAt
        have f1 : (w64 (i - b) == (at_ : Int)) = false := by rw [w64_id (by omega) (by omega)]; simp; omega
        have f2 : decide (w64 (i - b) > (at_ : Int)) = false := by rw [w64_id (by omega) (by omega)]; exact decide_eq_false (by omega)
        simp only [f1, f2, Bool.false_eq_true, if_false]
        refine ⟨trivial, ?_⟩
        simp [Trm.var, Trm.cnt, cnts]; omega
    · have e1 : (k == 1) = false := by simpa using hk
      rw [rebuild_node _ _ _ _ _ _ e1, rebuild_node _ _ _ _ _ _ e1, next_b (by omega)]
      have key : ∀ a ∈ l, _ := fun a ha => ih a ha (H.sh a ha) (H.ix a ha) (if k == 2 then b + 1 else b) (bz ha (by omega))
      refine ⟨?_, ?_⟩
      · congr 1
        rw [List.map_map]
        conv => rhs; rw [← List.map_id l]
        exact List.map_congr_left fun a ha => (key a ha).1
      · simp only [Trm.cnt, e1, Bool.false_and, Bool.false_eq_true, if_false, Nat.zero_add, cnts_sum, List.map_map]
        have : ∀ (l : List Trm), (∀ a ∈ l, (a.rebuild (liftAt at_ 1) ((if k == 2 then b + 1 else b : Nat) : Int)).cnt at_ (if k == 2 then b + 1 else b) = 0) → (l.map ((fun a => a.cnt at_ (if k == 2 then b + 1 else b)) ∘ fun a => a.rebuild (liftAt at_ 1) ((if k == 2 then b + 1 else b : Nat) : Int))).sum = 0 := by
          intro l
          induction l with
          | nil => intro _; rfl
          | cons a l ih2 => intro h; simp only [List.map_cons, List.sum_cons, Function.comp]; rw [h a List.mem_cons_self]; simpa using ih2 fun x hx => h x (List.mem_cons_of_mem _ hx)
        exact this l fun a ha => (key a ha).2
/-- Lifting twice. -/
theorem lift_lift (at_ n m : Nat) (h : at_ + n + m ≤ 1000000) (t : Trm) : t.shape = true → t.idxB 536870912 = true → ∀ b : Nat, b + t.sz ≤ 1000000 → (t.rebuild (liftAt at_ n) b).rebuild (liftAt at_ m) b = t.rebuild (liftAt at_ ((n + m : Nat) : Int)) b := by
  induction t using Trm.ind with
  | _ k i ty l ih =>
    intro hs hi b hb
    have H := tm1 hs hi
    rw [Trm.sz_mk] at hb
    by_cases hk : k = 1
    · subst hk
      obtain ⟨rfl, rfl⟩ := H.vr rfl
      have hub := H.ub rfl
      have hnn := H.nn
      show (liftAt at_ n i b).rebuild (liftAt at_ m) b = liftAt at_ ((n + m : Nat) : Int) i b
      unfold liftAt
      rw [w64_id (x := i - b) (by omega) (by omega), w64_id (x := i + n) (by omega) (by omega), w64_id (x := i + ((n + m : Nat) : Int)) (by omega) (by omega), rebuild_var]
      by_cases hc : i - b ≥ at_
      · have e : decide (i - (b : Int) ≥ (at_ : Int)) = true := decide_eq_true hc
        have f1 : decide (w64 (i + n - b) ≥ (at_ : Int)) = true := by rw [w64_id (by omega) (by omega)]; exact decide_eq_true (by omega)
        simp only [e, if_true, f1]
        rw [w64_id (x := i + n + m) (by omega) (by omega), show i + n + m = i + ((n + m : Nat) : Int) by omega]
      · have e : decide (i - (b : Int) ≥ (at_ : Int)) = false := decide_eq_false hc
        have f1 : decide (w64 (i - b) ≥ (at_ : Int)) = false := by rw [w64_id (by omega) (by omega)]; exact e
        simp only [e, Bool.false_eq_true, if_false, f1]
    · have e1 : (k == 1) = false := by simpa using hk
      rw [rebuild_node _ _ _ _ _ _ e1, rebuild_node _ _ _ _ _ _ e1, rebuild_node _ _ _ _ _ _ e1, next_b (by omega), List.map_map]
      congr 1
      exact List.map_congr_left fun a ha => ih a ha (H.sh a ha) (H.ix a ha) _ (bz ha (by omega))
theorem idx_lift (at_ n : Nat) (h : at_ + n ≤ 1000000) (N : Int) (hN : N ≤ 536870912) (t : Trm) : t.shape = true → t.idxB N = true → ∀ b : Nat, b + t.sz ≤ 1000000 → (t.rebuild (liftAt at_ n) b).idxB (N + n) = true ∧ (t.rebuild (liftAt at_ n) b).shape = true := by
  induction t using Trm.ind with
  | _ k i ty l ih =>
    intro hs hi b hb
    have hi' := hi
    simp only [Trm.idxB, Bool.and_eq_true, idxBs_all, List.all_eq_true] at hi'
    rw [Trm.sz_mk] at hb
    have hs' := Trm.shape_iff.1 hs
    obtain ⟨h1, h2, h3, h4, h5⟩ := hs'
    by_cases hk : k = 1
    · subst hk
      have hub : i ≤ N := by simpa using hi'.1
      show (liftAt at_ n i b).idxB (N + n) = true ∧ (liftAt at_ n i b).shape = true
      unfold liftAt
      rw [w64_id (x := i - b) (by omega) (by omega), w64_id (x := i + n) (by omega) (by omega)]
      refine ⟨?_, ?_⟩
      · simp only [Trm.var, Trm.idxB, idxBs, Bool.and_true, beq_self_eq_true, Bool.not_true, Bool.false_or, decide_eq_true_eq]; split <;> omega
      · refine Trm.shape_iff.2 ⟨rfl, ?_, .inr rfl, rfl, fun _ h => by cases h⟩
        split <;> omega
    · have e1 : (k == 1) = false := by simpa using hk
      rw [rebuild_node _ _ _ _ _ _ e1, next_b (by omega)]
      have key : ∀ a ∈ l, _ := fun a ha => ih a ha (h5 a ha) (hi'.2 a ha) (if k == 2 then b + 1 else b) (bz ha (by omega))
      refine ⟨?_, Trm.shape_iff.2 ⟨by rw [List.length_map]; exact h1, h2, h3, h4, fun x hx => ?_⟩⟩
      · simp only [Trm.idxB, e1, Bool.not_false, Bool.true_or, Bool.true_and, idxBs_all, List.all_map, List.all_eq_true]
        exact fun a ha => (key a ha).1
      · obtain ⟨a, ha, rfl⟩ := List.mem_map.1 hx
        exact (key a ha).2
end Go.AM
set_option linter.unusedVariables false
set_option linter.unusedSimpArgs false
set_option maxHeartbeats 4000000
namespace Go.AM
open Go
theorem checkTm (t : Trm) (h : t.big ≤ 1000000) : terms_Check t = some t.err := by
  unfold terms_Check; rw [bnd_eq (checkTerm t h)]
theorem within_eq (n : Int) : subst_within n = some (within n) := by
  unfold subst_within within
  cases decide (n ≥ 0) <;> rfl
/-! ### Lists of keys -/
def addK (s : List Int) (v : Int) : List Int := cond (s.contains v) s (s ++ [v])
theorem addK_mem {s : List Int} {v a : Int} : v ∈ addK s a ↔ v ∈ s ∨ v = a := by
  unfold addK
  cases h : s.contains a with
  | true =>
    have : a ∈ s := by simpa using h
    simp only [cond_true]
    exact ⟨.inl, fun h => h.elim id fun e => e ▸ this⟩
  | false => simp
theorem addK_nodup {s : List Int} {a : Int} (h : s.Nodup) : (addK s a).Nodup := by
  unfold addK
  cases hc : s.contains a with
  | true => exact h
  | false =>
    have : a ∉ s := by simpa using hc
    simp only [cond_false]
    rw [List.nodup_append]
    exact ⟨h, by simp, fun x hx y hy e => by simp at hy; subst hy; subst e; exact this hx⟩
theorem addK_len (s : List Int) (a : Int) : (addK s a).length ≤ s.length + 1 := by unfold addK; cases s.contains a <;> simp
def tr (s : List Int) : List (Int × Bool) := s.map fun k => (k, true)
theorem tr_set (s : List Int) (a : Int) : mset (tr s) a true = tr (addK s a) := by
  unfold addK tr
  induction s with
  | nil => rfl
  | cons b s ih =>
    simp only [List.map_cons, mset, List.contains_cons]
    by_cases hb : b = a
    · subst hb; simp
    · have e1 : (b == a) = false := by simpa using hb
      have e2 : (a == b) = false := by simpa using fun h => hb h.symm
      rw [e1, e2, cond_false, Bool.false_or, ih]
      cases s.contains a <;> rfl
theorem tr_get (s : List Int) (a : Int) : (mget (tr s) a).getD false = s.contains a := by
  unfold tr
  induction s with
  | nil => rfl
  | cons b s ih =>
    simp only [List.map_cons, mget, List.contains_cons]
    by_cases hb : b = a
    · subst hb; simp
    · have e1 : (b == a) = false := by simpa using hb
      have e2 : (a == b) = false := by simpa using fun h => hb h.symm
      rw [e1, e2, cond_false, Bool.false_or, ih]
theorem tr_keys (s : List Int) : (tr s).map (·.1) = s := by simp [tr, Function.comp_def]
theorem tr_len (s : List Int) : (tr s).length = s.length := by simp [tr]
theorem each_hom {S S' : Type} (φ : S → S') {f : S → Int → Int → S} {f' : S' → Int → Int → S'} (h : ∀ s i b, φ (f s i b) = f' (φ s) i b) (t : Trm) : ∀ (b : Int) (s : S), φ (t.each f b s) = t.each f' b (φ s) := by
  induction t using Trm.ind with
  | _ k i ty l ih =>
    intro b s
    rw [each_mk, each_mk]
    have : ∀ (l : List Trm), (∀ a ∈ l, ∀ (b : Int) (s : S), φ (a.each f b s) = a.each f' b (φ s)) → ∀ (b : Int) (s : S), φ (l.foldl (fun s a => a.each f b s) s) = l.foldl (fun s a => a.each f' b s) (φ s) := by
      intro l
      induction l with
      | nil => intro _ b s; rfl
      | cons a l ih2 => intro h b s; simp only [List.foldl_cons]; rw [ih2 (fun x hx => h x (List.mem_cons_of_mem _ hx)), h a List.mem_cons_self]
    rw [this l ih]
    congr 1
    cases k == 1 with
    | true => simp only [if_true, h]
    | false => rfl
theorem each_inv {S : Type} (p : S → Prop) {f : S → Int → Int → S} (h : ∀ s i b, p s → p (f s i b)) (t : Trm) : ∀ (b : Int) (s : S), p s → p (t.each f b s) := by
  induction t using Trm.ind with
  | _ k i ty l ih =>
    intro b s hp
    rw [each_mk]
    have : ∀ (l : List Trm), (∀ a ∈ l, ∀ (b : Int) (s : S), p s → p (a.each f b s)) → ∀ (b : Int) (s : S), p s → p (l.foldl (fun s a => a.each f b s) s) := by
      intro l
      induction l with
      | nil => intro _ b s hp; exact hp
      | cons a l ih2 => intro h b s hp; exact ih2 (fun x hx => h x (List.mem_cons_of_mem _ hx)) b _ (h a List.mem_cons_self b s hp)
    refine this l ih _ _ ?_
    split
    · exact h _ _ _ hp
    · exact hp
def keyF (s : List Int) (i b : Int) : List Int := if decide (i ≥ b) then addK s (w64 (i - b)) else s
def Trm.keys (t : Trm) (b : Int) (s : List Int) : List Int := t.each keyF b s
theorem keys_nodup {t : Trm} {b : Int} {s : List Int} (h : s.Nodup) : (t.keys b s).Nodup := each_inv (fun s => s.Nodup) (fun s i b hs => by unfold keyF; split; exact addK_nodup hs; exact hs) t b s h
theorem keys_mk (k i : Int) (ty : Typ) (l : List Trm) (b : Int) (s : List Int) : (Trm.mk k i ty l).keys b s = l.foldl (fun s a => a.keys (if k == 2 then w64 (b + 1) else b) s) (if k == 1 then keyF s i b else s) := each_mk ..
theorem keys_len (t : Trm) : ∀ (b : Int) (s : List Int), (t.keys b s).length ≤ s.length + t.sz := by
  induction t using Trm.ind with
  | _ k i ty l ih =>
    intro b s
    rw [keys_mk, Trm.sz_mk]
    have : ∀ (l : List Trm), (∀ a ∈ l, ∀ (b : Int) (s : List Int), (a.keys b s).length ≤ s.length + a.sz) → ∀ (b : Int) (s : List Int), (l.foldl (fun s a => a.keys b s) s).length ≤ s.length + szTms l := by
      intro l
      induction l with
      | nil => intro _ b s; simp [szTms]
      | cons a l ih2 =>
        intro h b s
        have q1 := ih2 (fun x hx => h x (List.mem_cons_of_mem _ hx)) b (a.keys b s)
        have q2 := h a List.mem_cons_self b s
        simp only [List.foldl_cons, szTms]; omega
    have q := this l ih (if k == 2 then w64 (b + 1) else b) (if k == 1 then keyF s i b else s)
    have q2 : (if k == 1 then keyF s i b else s).length ≤ s.length + 1 := by
      unfold keyF
      have := addK_len s (w64 (i - b))
      split
      · split <;> omega
      · omega
    omega
theorem foldl_mem_any {p : Trm → Prop} {g : List Int → Trm → List Int} {v : Int} : ∀ (l : List Trm) (s : List Int), (∀ a ∈ l, ∀ s, v ∈ g s a ↔ v ∈ s ∨ p a) → (v ∈ l.foldl g s ↔ v ∈ s ∨ ∃ a ∈ l, p a)
  | [], s, _ => by simp
  | a :: l, s, h => by
    simp only [List.foldl_cons]
    rw [foldl_mem_any l _ fun b hb => h b (List.mem_cons_of_mem _ hb), h a List.mem_cons_self]
    simp only [List.mem_cons, exists_eq_or_imp, or_assoc]
theorem keys_mem (v : Int) (t : Trm) : t.shape = true → t.idxB 536870912 = true → ∀ (b : Nat) (s : List Int), b + t.sz ≤ 1000000 → (v ∈ t.keys b s ↔ v ∈ s ∨ (0 ≤ v ∧ t.fr v b = true)) := by
  induction t using Trm.ind with
  | _ k i ty l ih =>
    intro hs hi b s hb
    have H := tm1 hs hi
    rw [Trm.sz_mk] at hb
    rw [keys_mk, next_b (by omega)]
    rw [foldl_mem_any (p := fun a => 0 ≤ v ∧ a.fr v (if k == 2 then b + 1 else b) = true) l _ fun a ha s => ih a ha (H.sh a ha) (H.ix a ha) _ s (bz ha (by omega))]
    rw [fr_mk]
    by_cases hk : k = 1
    · subst hk
      obtain ⟨rfl, rfl⟩ := H.vr rfl
      have hub := H.ub rfl
      have hnn := H.nn
      unfold keyF
      simp only [beq_self_eq_true, if_true, Bool.true_and, List.any_nil, Bool.or_false, beq_iff_eq, List.not_mem_nil, false_and, exists_false, or_false]
      rw [w64_id (by omega) (by omega)]
      split
      · rename_i h
        have h := of_decide_eq_true h
        rw [addK_mem]
        refine or_congr Iff.rfl ⟨fun e => by subst e; omega, fun e => by omega⟩
      · rename_i h
        have h : ¬ (i ≥ b) := by simpa using h
        exact ⟨.inl, fun e => e.elim id fun e => by omega⟩
    · have e1 : (k == 1) = false := by simpa using hk
      rw [e1]
      simp only [Bool.false_eq_true, if_false, Bool.false_and, Bool.false_or, List.any_eq_true]
      refine or_congr Iff.rfl ⟨fun ⟨a, ha, h0, h1⟩ => ⟨h0, a, ha, h1⟩, fun ⟨h0, a, ha, h1⟩ => ⟨a, ha, h0, h1⟩⟩
theorem fr_le (v : Int) (t : Trm) : t.idxB 536870912 = true → ∀ b : Nat, t.fr v b = true → v ≤ 536870912 := by
  induction t using Trm.ind with
  | _ k i ty l ih =>
    intro hi b h
    simp only [Trm.idxB, Bool.and_eq_true, idxBs_all, List.all_eq_true] at hi
    rw [fr_mk, Bool.or_eq_true, List.any_eq_true] at h
    rcases h with h | ⟨a, ha, h⟩
    · rw [Bool.and_eq_true, beq_iff_eq, beq_iff_eq] at h
      have : k = 1 := h.1
      subst this
      have : i ≤ 536870912 := by simpa using hi.1
      omega
    · exact ih a ha (hi.2 a ha) _ h
/-! ### What the printed functions reckon -/
theorem usesEach_m (t : Trm) : ∀ (m : Nat) (b : Int) (s : List (Int × Bool)), t.sz ≤ m → tree_Each_1_8ac_m m t b s = some (t.each (fun s i b => if decide (i ≥ b) then mset s (w64 (i - b)) true else s) b s) := by
  induction t using Trm.ind with
  | _ k i ty l ih =>
    intro m b s hm
    rw [Trm.sz_mk] at hm
    cases m with
    | zero => omega
    | succ m =>
      have hk2 : ∀ (b : Int) (s : List (Int × Bool)), tree_Each_1_8ac_k2 (fun t b s => tree_Each_1_8ac_m m t b s) (.mk k i ty l) s b = some (l.foldl (fun s a => a.each (fun s i b => if decide (i ≥ b) then mset s (w64 (i - b)) true else s) b s) s) := fun b s => by
        unfold tree_Each_1_8ac_k2
        exact loopL_fold (self := fun a x => tree_Each_1_8ac_m m a b x) (fun a ha x => ih a ha m b x (by have : a.sz ≤ szTms l := szTms_mem ha; omega))
      rw [each_mk]
      show tree_Each_1_8ac_b (fun t b s => tree_Each_1_8ac_m m t b s) (.mk k i ty l) b s = _
      unfold tree_Each_1_8ac_b tree_Each_1_8ac_k1 subst_Uses_1_595
      show cond (k == 1) (bnd (cond (decide (i ≥ b)) _ _) fun r2 => cond (k == 2) _ _) (cond (k == 2) _ _) = _
      cases k == 1 <;> cases k == 2 <;> cases decide (i ≥ b) <;> simp only [cond_true, cond_false, bnd_some, hk2] <;> rfl
theorem usesEq (t : Trm) (hb : t.big ≤ 1000000) (h : t.err = 0) (hs : t.shape = true) (hi : t.idxB 536870912 = true) : subst_Uses t = some (sortI (t.keys 0 []), 0) := by
  have hsz := t.sz_le_big
  unfold subst_Uses
  rw [bnd_eq (checkTm t hb), h]
  show bnd (tree_Each_ba6 t []) _ = _
  have e1 : tree_Each_ba6 t [] = some (tr (t.keys 0 [])) := by
    unfold tree_Each_ba6
    rw [bnd_id]
    refine (usesEach_m t FU 0 [] (by unfold FU; omega)).trans ?_
    have := each_hom tr (f := keyF) (f' := fun s i b => if decide (i ≥ b) then mset s (w64 (i - b)) true else s) (fun s i b => by
      unfold keyF
      cases decide (i ≥ b) with
      | true => simp only [if_true, tr_set]
      | false => rfl) t 0 []
    exact congrArg some this.symm
  rw [bnd_eq e1]
  show bnd (sortedKeysI (tr (t.keys 0 []))) _ = _
  have e2 : sortedKeysI (tr (t.keys 0 [])) = some (sortI (t.keys 0 [])) := by
    unfold sortedKeysI
    rw [tr_keys]
    have hl := keys_len t 0 []
    have : keysOk (t.keys 0 []) = true := by
      simp only [keysOk, Bool.and_eq_true, ndB_iff, List.all_eq_true]
      refine ⟨decide_eq_true (by simp at hl; omega), fun v hv => ?_, keys_nodup List.nodup_nil⟩
      have := (keys_mem v t hs hi 0 [] (by omega)).1 hv
      simp only [List.not_mem_nil, false_or] at this
      have h2 := fr_le v t hi 0 this.2
      simp only [inI, Bool.and_eq_true]
      exact ⟨decide_eq_true (by omega), decide_eq_true (by omega)⟩
    rw [this]; rfl
  rw [bnd_eq e2]
theorem sortI_mem {l : List Int} {v : Int} : v ∈ sortI l ↔ v ∈ l := List.mem_mergeSort
theorem sortI_nodup {l : List Int} (h : l.Nodup) : (sortI l).Nodup := (List.mergeSort_perm l _).nodup_iff.2 h
theorem uses_mem {t : Trm} (hs : t.shape = true) (hi : t.idxB 536870912 = true) (hb : t.sz ≤ 1000000) {v : Int} : v ∈ sortI (t.keys 0 []) ↔ 0 ≤ v ∧ t.fr v 0 = true := by
  have h := keys_mem v t hs hi 0 [] (by omega)
  rw [show ((0 : Nat) : Int) = 0 from rfl] at h
  rw [sortI_mem, h]; simp
theorem saneEq : law03_sane () = some true := by kernel_rfl
theorem liftFEq {t : Trm} (hb : t.big ≤ 1000000) (he : t.err = 0) (hi : t.idxB 536870912 = true) {a y : Nat} (ha : a ≤ 4096) (hy : y ≤ 4096) : subst_Lift t a y = some (t.lift a y, 0) := by
  have hsz := t.sz_le_big
  unfold subst_Lift
  have w1 : within (a : Int) = true := by unfold within; rw [decide_eq_true (by omega), decide_eq_true (by omega)]; rfl
  have w2 : within (y : Int) = true := by unfold within; rw [decide_eq_true (by omega), decide_eq_true (by omega)]; rfl
  have n1 : t.near = true := by rw [near_eq]; exact hi
  rw [bnd_eq (checkTm t hb), he, bnd_eq (within_eq _), w1, bnd_eq (within_eq _), w2, bnd_eq (nearEq t (by omega)), n1, bnd_eq (liftEq t _ _ hb)]
  rfl
theorem lowerFEq {t : Trm} (hb : t.big ≤ 1000000) (he : t.err = 0) (hs : t.shape = true) (hi : t.idxB 536870912 = true) {a : Nat} (ha : a ≤ 4096) (hc : t.cnt a 0 = 0) : subst_Lower t a = some (t.put a .zero, 0) := by
  have hsz := t.sz_le_big
  unfold subst_Lower
  have w1 : within (a : Int) = true := by unfold within; rw [decide_eq_true (by omega), decide_eq_true (by omega)]; rfl
  have c0 : t.count (a : Int) = 0 := by rw [(count_eq a (by omega) hs hi (by omega)).1, hc]; rfl
  have p0 : tree_Put t a (Trm.mk 0 0 (Typ.mk 0 ([] : List Typ)) ([] : List Trm)) = some (t.put a .zero) := putEq t a .zero hb (by decide)
  rw [bnd_eq (checkTm t hb), he, bnd_eq (within_eq _), w1, bnd_eq (countEq t _ (by omega)), c0, bnd_eq p0]
  rfl
end Go.AM

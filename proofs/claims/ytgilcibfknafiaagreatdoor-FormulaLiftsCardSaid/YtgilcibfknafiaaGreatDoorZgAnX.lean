/-
  Free variables: the plain law of what is put in, lifted and lowered; the printed functions about them.
-/
import Derived.Test.YtgilcibfknafiaaGreatDoorZgAnV
set_option linter.unusedVariables false
set_option linter.unusedSimpArgs false
set_option maxHeartbeats 4000000
namespace Go.AM
open Go
/-! ### Free variables -/
mutual
def Trm.fr (v : Int) : Trm → Nat → Bool
  | .mk k i _ l, b => (k == 1 && i == v + (b : Int)) || frs v l (if k == 2 then b + 1 else b)
def frs (v : Int) : List Trm → Nat → Bool
  | [], _ => false
  | a :: l, b => a.fr v b || frs v l b
end
theorem frs_any (v : Int) (b : Nat) : ∀ l : List Trm, frs v l b = l.any fun a => a.fr v b
  | [] => rfl
  | a :: l => by simp [frs, frs_any v b l]
theorem fr_mk (v : Int) (k i : Int) (ty : Typ) (l : List Trm) (b : Nat) : (Trm.mk k i ty l).fr v b = ((k == 1 && i == v + (b : Int)) || l.any fun a => a.fr v (if k == 2 then b + 1 else b)) := by
  simp only [Trm.fr, frs_any]
theorem fr_var (v i : Int) (b : Nat) : (Trm.var i).fr v b = (i == v + (b : Int)) := by simp [Trm.var, fr_mk]
theorem idxBs_all (N : Int) : ∀ l : List Trm, idxBs N l = l.all fun a => a.idxB N
  | [] => rfl
  | a :: l => by simp [idxBs, idxBs_all N l]
theorem cnts_sum (v b : Nat) : ∀ l : List Trm, cnts v l b = (l.map fun a => a.cnt v b).sum
  | [] => rfl
  | a :: l => by simp [cnts, cnts_sum v b l]
/-- What is known of a right term's parts. -/
structure Tm1 (k i : Int) (ty : Typ) (l : List Trm) : Prop where
  nn : 0 ≤ i
  vr : k = 1 → l = [] ∧ ty = .zero
  sh : ∀ a ∈ l, a.shape = true
  ix : ∀ a ∈ l, a.idxB 536870912 = true
  ub : k = 1 → i ≤ 536870912
theorem none_is {t : Typ} (h : t.none = true) : t = .zero := by
  obtain ⟨k, l⟩ := t
  simp only [Typ.none, Typ.kind, Typ.args, Bool.and_eq_true, beq_iff_eq] at h
  obtain ⟨rfl, h⟩ := h
  rw [List.eq_nil_of_length_eq_zero h]; rfl
theorem tm1 {k i : Int} {ty : Typ} {l : List Trm} (hs : (Trm.mk k i ty l).shape = true) (hi : (Trm.mk k i ty l).idxB 536870912 = true) : Tm1 k i ty l := by
  rw [Trm.shape_iff] at hs
  obtain ⟨h1, h2, h3, h4, h5⟩ := hs
  simp only [Trm.idxB, Bool.and_eq_true, idxBs_all, List.all_eq_true] at hi
  refine ⟨h2, fun e => ?_, h5, hi.2, fun e => ?_⟩
  · subst e
    have ha : arity 1 = some 0 := rfl
    rw [ha] at h1
    injection h1 with h1
    exact ⟨List.eq_nil_of_length_eq_zero h1.symm, none_is (by simpa [typed] using h4)⟩
  · subst e; simpa using hi.1
theorem next_b {k : Int} {b : Nat} (h : b ≤ 2000000) : (if (k == 2) = true then w64 ((b : Int) + 1) else (b : Int)) = ((if k == 2 then b + 1 else b : Nat) : Int) := by
  split
  · rw [w64_id (by omega) (by omega)]; omega
  · rfl
theorem b_le (k : Int) (b : Nat) : (if k == 2 then b + 1 else b) ≤ b + 1 := by split <;> omega
theorem bz {k : Int} {l : List Trm} {a : Trm} {b N : Nat} (ha : a ∈ l) (h : b + (1 + szTms l) ≤ N) : (if k == 2 then b + 1 else b) + a.sz ≤ N := by
  have : a.sz ≤ szTms l := szTms_mem ha
  have := b_le k b
  omega
/-- Lifting, at whatever depth. -/
theorem fr_lift (n : Nat) (hn : n ≤ 1000000) (v : Int) (hv : 0 ≤ v) (t : Trm) : t.shape = true → t.idxB 536870912 = true → ∀ c : Nat, c + t.sz ≤ 1000000 → (t.rebuild (liftAt 0 n) c).fr v (c + n) = t.fr v c := by
  induction t using Trm.ind with
  | _ k i ty l ih =>
    intro hs hi c hc
    have H := tm1 hs hi
    rw [Trm.sz_mk] at hc
    by_cases hk : k = 1
    · subst hk
      obtain ⟨rfl, rfl⟩ := H.vr rfl
      have hub := H.ub rfl
      have hnn := H.nn
      show (liftAt 0 n i c).fr v (c + n) = _
      unfold liftAt
      rw [w64_id (x := i - c) (by omega) (by omega), w64_id (x := i + n) (by omega) (by omega), fr_var, fr_mk]
      simp only [beq_self_eq_true, Bool.true_and, List.any_nil, Bool.or_false]
      rw [Bool.eq_iff_iff, beq_iff_eq, beq_iff_eq]
      split
      · omega
      · rename_i h; simp at h; omega
    · have e1 : (k == 1) = false := by simpa using hk
      rw [rebuild_node _ _ _ _ _ _ e1, next_b (by omega), fr_mk, fr_mk, e1]
      simp only [Bool.false_and, Bool.false_or, List.any_map]
      have hb : (if k == 2 then c + n + 1 else c + n) = (if k == 2 then c + 1 else c) + n := by split <;> omega
      rw [hb]
      have key : ∀ a ∈ l, (a.rebuild (liftAt 0 n) ((if k == 2 then c + 1 else c : Nat) : Int)).fr v ((if k == 2 then c + 1 else c) + n) = a.fr v (if k == 2 then c + 1 else c) := fun a ha =>
        ih a ha (H.sh a ha) (H.ix a ha) _ (bz ha (by omega))
      rw [Bool.eq_iff_iff, List.any_eq_true, List.any_eq_true]
      exact ⟨fun ⟨a, ha, h⟩ => ⟨a, ha, by rw [← key a ha]; exact h⟩, fun ⟨a, ha, h⟩ => ⟨a, ha, by show Trm.fr _ _ _ = true; rw [key a ha]; exact h⟩⟩
/-- What is free where a term was put in. -/
theorem fr_put (y : Trm) (hy : y.shape = true) (hyi : y.idxB 536870912 = true) (hys : y.sz ≤ 100000) (v : Int) (hv : 0 ≤ v) (t : Trm) : t.shape = true → t.idxB 536870912 = true → ∀ b : Nat, b + t.sz ≤ 900000 →
    (t.rebuild (putAt 0 y) b).fr v b = (t.fr (v + 1) b || (t.fr 0 b && y.fr v 0)) := by
  induction t using Trm.ind with
  | _ k i ty l ih =>
    intro hs hi b hb
    have H := tm1 hs hi
    rw [Trm.sz_mk] at hb
    by_cases hk : k = 1
    · subst hk
      obtain ⟨rfl, rfl⟩ := H.vr rfl
      have hub := H.ub rfl
      have hnn := H.nn
      show (putAt 0 y i b).fr v b = _
      unfold putAt
      rw [w64_id (x := i - b) (by omega) (by omega), w64_id (x := i - 1) (by omega) (by omega), fr_mk, fr_mk]
      simp only [beq_self_eq_true, Bool.true_and, List.any_nil, Bool.or_false, Int.zero_add]
      by_cases hc : i = b
      · subst hc
        rw [if_pos (by simp), w64_id (by omega) (by omega)]
        have := fr_lift b (by omega) v hv y hy hyi 0 (by omega)
        rw [Nat.zero_add] at this
        rw [show (y.lift 0 (b : Int)).fr v b = y.fr v 0 from this]
        have : ((b : Int) == v + 1 + (b : Int)) = false := by simp; omega
        rw [this]; simp
      · rw [if_neg (by simp; omega)]
        have e2 : (i == (b : Int)) = false := by simpa using hc
        rw [e2, Bool.false_and, Bool.or_false, Bool.eq_iff_iff, beq_iff_eq]
        split
        · rw [fr_var, beq_iff_eq]; omega
        · rename_i h; simp at h; rw [fr_var, beq_iff_eq]; omega
    · have e1 : (k == 1) = false := by simpa using hk
      rw [rebuild_node _ _ _ _ _ _ e1, next_b (by omega), fr_mk, fr_mk, fr_mk, e1]
      simp only [Bool.false_and, Bool.false_or, List.any_map]
      have key : ∀ a ∈ l, (a.rebuild (putAt 0 y) ((if k == 2 then b + 1 else b : Nat) : Int)).fr v (if k == 2 then b + 1 else b) = (a.fr (v + 1) (if k == 2 then b + 1 else b) || (a.fr 0 (if k == 2 then b + 1 else b) && y.fr v 0)) := fun a ha =>
        ih a ha (H.sh a ha) (H.ix a ha) _ (bz ha (by omega))
      rw [Bool.eq_iff_iff]
      simp only [List.any_eq_true, Bool.or_eq_true, Bool.and_eq_true, Function.comp]
      constructor
      · rintro ⟨a, ha, h⟩
        rw [key a ha] at h
        simp only [Bool.or_eq_true, Bool.and_eq_true] at h
        rcases h with h | ⟨h, h'⟩
        · exact .inl ⟨a, ha, h⟩
        · exact .inr ⟨⟨a, ha, h⟩, h'⟩
      · rintro (⟨a, ha, h⟩ | ⟨⟨a, ha, h⟩, h'⟩)
        · exact ⟨a, ha, by rw [key a ha, h]; rfl⟩
        · exact ⟨a, ha, by rw [key a ha, h, h']; simp⟩
/-- How large it becomes, exactly. -/
theorem sz_put_eq (y : Trm) (hy : y.shape = true) (t : Trm) : t.shape = true → t.idxB 536870912 = true → ∀ b : Nat, b + t.sz ≤ 1000000 → (t.rebuild (putAt 0 y) b).sz = t.sz + t.cnt 0 b * (y.sz - 1) := by
  have hyp := y.sz_pos
  induction t using Trm.ind with
  | _ k i ty l ih =>
    intro hs hi b hb
    have H := tm1 hs hi
    rw [Trm.sz_mk] at hb
    simp only [Trm.cnt, cnts_sum]
    by_cases hk : k = 1
    · subst hk
      obtain ⟨rfl, rfl⟩ := H.vr rfl
      have hub := H.ub rfl
      have hnn := H.nn
      show (putAt 0 y i b).sz = _
      unfold putAt
      rw [w64_id (x := i - b) (by omega) (by omega)]
      simp only [Trm.sz_mk, szTms, beq_self_eq_true, Bool.true_and, List.map_nil, List.sum_nil, Nat.add_zero]
      have hone : ∀ j : Int, (Trm.var j).sz = 1 := fun _ => rfl
      by_cases hc : i = b
      · rw [if_pos (by simp; omega), sz_lift hy, if_pos (by simp; omega)]; omega
      · rw [if_neg (by simp; omega)]
        have e2 : (i == (b : Int)) = false := by simpa using hc
        rw [e2]
        split <;> rw [hone] <;> simp
    · have e1 : (k == 1) = false := by simpa using hk
      rw [rebuild_node _ _ _ _ _ _ e1, next_b (by omega), Trm.sz_mk, Trm.sz_mk, e1]
      simp only [Bool.false_and, Bool.false_eq_true, if_false, Nat.zero_add]
      have hl : ∀ (l : List Trm), (∀ a ∈ l, (a.rebuild (putAt 0 y) ((if k == 2 then b + 1 else b : Nat) : Int)).sz = a.sz + a.cnt 0 (if k == 2 then b + 1 else b) * (y.sz - 1)) →
          szTms (l.map (·.rebuild (putAt 0 y) ((if k == 2 then b + 1 else b : Nat) : Int))) = szTms l + (l.map fun a => a.cnt 0 (if k == 2 then b + 1 else b)).sum * (y.sz - 1) := by
        intro l
        induction l with
        | nil => intro _; simp [szTms]
        | cons a l ih2 =>
          intro h
          simp only [List.map_cons, szTms, List.sum_cons, Nat.add_mul]
          rw [h a List.mem_cons_self, ih2 fun x hx => h x (List.mem_cons_of_mem _ hx)]
          omega
      rw [hl l fun a ha => ih a ha (H.sh a ha) (H.ix a ha) _ (bz ha (by omega))]
      omega
/-- What was lifted away is lowered back. -/
theorem put_lift (at_ : Nat) (hat : at_ ≤ 1000000) (z : Trm) (t : Trm) : t.shape = true → t.idxB 536870912 = true → ∀ b : Nat, b + t.sz ≤ 1000000 → (t.rebuild (liftAt at_ 1) b).rebuild (putAt at_ z) b = t ∧ (t.rebuild (liftAt at_ 1) b).cnt at_ b = 0 := by
  induction t using Trm.ind with
  | _ k i ty l ih =>
    intro hs hi b hb
    have H := tm1 hs hi
    rw [Trm.sz_mk] at hb
    by_cases hk : k = 1
    · subst hk
      obtain ⟨rfl, rfl⟩ := H.vr rfl
      have hub := H.ub rfl
      have hnn := H.nn
      show (liftAt at_ 1 i b).rebuild (putAt at_ z) b = .var i ∧ (liftAt at_ 1 i b).cnt at_ b = 0
      unfold liftAt
      rw [w64_id (x := i - b) (by omega) (by omega), w64_id (x := i + 1) (by omega) (by omega), rebuild_var]
      by_cases hc : i - b ≥ at_
      · have e : decide (i - (b : Int) ≥ (at_ : Int)) = true := decide_eq_true hc
        simp only [e, if_true]
        unfold putAt
        have f1 : (w64 (i + 1 - b) == (at_ : Int)) = false := by rw [w64_id (by omega) (by omega)]; simp; omega
        have f2 : decide (w64 (i + 1 - b) > (at_ : Int)) = true := by rw [w64_id (by omega) (by omega)]; exact decide_eq_true (by omega)
        have f3 : w64 (i + 1 - 1) = i := by rw [w64_id (by omega) (by omega)]; omega
        simp only [f1, f2, f3, Bool.false_eq_true, if_false, if_true]
        refine ⟨trivial, ?_⟩
        simp [Trm.var, Trm.cnt, cnts]; omega
      · have e : decide (i - (b : Int) ≥ (at_ : Int)) = false := decide_eq_false hc
        simp only [e, Bool.false_eq_true, if_false]
        unfold putAt
        have f1 : (w64 (i - b) == (at_ : Int)) = false := by rw [w64_id (by omega) (by omega)]; simp; omega
        have f2 : decide (w64 (i - b) > (at_ : Int)) = false := by rw [w64_id (by omega) (by omega)]; exact decide_eq_false (by omega)
        simp only [f1, f2, Bool.false_eq_true, if_false]
        refine ⟨trivial, ?_⟩
        simp [Trm.var, Trm.cnt, cnts]; omega
    · have e1 : (k == 1) = false := by simpa using hk
      rw [rebuild_node _ _ _ _ _ _ e1, rebuild_node _ _ _ _ _ _ e1, next_b (by omega)]
      have key : ∀ a ∈ l, _ := fun a ha => ih a ha (H.sh a ha) (H.ix a ha) (if k == 2 then b + 1 else b) (bz ha (by omega))
      refine ⟨?_, ?_⟩
      · congr 1
        rw [List.map_map]
        conv => rhs; rw [← List.map_id l]
        exact List.map_congr_left fun a ha => (key a ha).1
      · simp only [Trm.cnt, e1, Bool.false_and, Bool.false_eq_true, if_false, Nat.zero_add, cnts_sum, List.map_map]
        have : ∀ (l : List Trm), (∀ a ∈ l, (a.rebuild (liftAt at_ 1) ((if k == 2 then b + 1 else b : Nat) : Int)).cnt at_ (if k == 2 then b + 1 else b) = 0) → (l.map ((fun a => a.cnt at_ (if k == 2 then b + 1 else b)) ∘ fun a => a.rebuild (liftAt at_ 1) ((if k == 2 then b + 1 else b : Nat) : Int))).sum = 0 := by
          intro l
          induction l with
          | nil => intro _; rfl
          | cons a l ih2 => intro h; simp only [List.map_cons, List.sum_cons, Function.comp]; rw [h a List.mem_cons_self]; simpa using ih2 fun x hx => h x (List.mem_cons_of_mem _ hx)
        exact this l fun a ha => (key a ha).2
/-- Lifting twice. -/
theorem lift_lift (at_ n m : Nat) (h : at_ + n + m ≤ 1000000) (t : Trm) : t.shape = true → t.idxB 536870912 = true → ∀ b : Nat, b + t.sz ≤ 1000000 → (t.rebuild (liftAt at_ n) b).rebuild (liftAt at_ m) b = t.rebuild (liftAt at_ ((n + m : Nat) : Int)) b := by
  induction t using Trm.ind with
  | _ k i ty l ih =>
    intro hs hi b hb
    have H := tm1 hs hi
    rw [Trm.sz_mk] at hb
    by_cases hk : k = 1
    · subst hk
      obtain ⟨rfl, rfl⟩ := H.vr rfl
      have hub := H.ub rfl
      have hnn := H.nn
      show (liftAt at_ n i b).rebuild (liftAt at_ m) b = liftAt at_ ((n + m : Nat) : Int) i b
      unfold liftAt
      rw [w64_id (x := i - b) (by omega) (by omega), w64_id (x := i + n) (by omega) (by omega), w64_id (x := i + ((n + m : Nat) : Int)) (by omega) (by omega), rebuild_var]
      by_cases hc : i - b ≥ at_
      · have e : decide (i - (b : Int) ≥ (at_ : Int)) = true := decide_eq_true hc
        have f1 : decide (w64 (i + n - b) ≥ (at_ : Int)) = true := by rw [w64_id (by omega) (by omega)]; exact decide_eq_true (by omega)
        simp only [e, if_true, f1]
        rw [w64_id (x := i + n + m) (by omega) (by omega), show i + n + m = i + ((n + m : Nat) : Int) by omega]
      · have e : decide (i - (b : Int) ≥ (at_ : Int)) = false := decide_eq_false hc
        have f1 : decide (w64 (i - b) ≥ (at_ : Int)) = false := by rw [w64_id (by omega) (by omega)]; exact e
        simp only [e, Bool.false_eq_true, if_false, f1]
    · have e1 : (k == 1) = false := by simpa using hk
      rw [rebuild_node _ _ _ _ _ _ e1, rebuild_node _ _ _ _ _ _ e1, rebuild_node _ _ _ _ _ _ e1, next_b (by omega), List.map_map]
      congr 1
      exact List.map_congr_left fun a ha => ih a ha (H.sh a ha) (H.ix a ha) _ (bz ha (by omega))
theorem idx_lift (at_ n : Nat) (h : at_ + n ≤ 1000000) (N : Int) (hN : N ≤ 536870912) (t : Trm) : t.shape = true → t.idxB N = true → ∀ b : Nat, b + t.sz ≤ 1000000 → (t.rebuild (liftAt at_ n) b).idxB (N + n) = true ∧ (t.rebuild (liftAt at_ n) b).shape = true := by
  induction t using Trm.ind with
  | _ k i ty l ih =>
    intro hs hi b hb
    have hi' := hi
    simp only [Trm.idxB, Bool.and_eq_true, idxBs_all, List.all_eq_true] at hi'
    rw [Trm.sz_mk] at hb
    have hs' := Trm.shape_iff.1 hs
    obtain ⟨h1, h2, h3, h4, h5⟩ := hs'
    by_cases hk : k = 1
    · subst hk
      have hub : i ≤ N := by simpa using hi'.1
      show (liftAt at_ n i b).idxB (N + n) = true ∧ (liftAt at_ n i b).shape = true
      unfold liftAt
      rw [w64_id (x := i - b) (by omega) (by omega), w64_id (x := i + n) (by omega) (by omega)]
      refine ⟨?_, ?_⟩
      · simp only [Trm.var, Trm.idxB, idxBs, Bool.and_true, beq_self_eq_true, Bool.not_true, Bool.false_or, decide_eq_true_eq]; split <;> omega
      · refine Trm.shape_iff.2 ⟨rfl, ?_, .inr rfl, rfl, fun _ h => by cases h⟩
        split <;> omega
    · have e1 : (k == 1) = false := by simpa using hk
      rw [rebuild_node _ _ _ _ _ _ e1, next_b (by omega)]
      have key : ∀ a ∈ l, _ := fun a ha => ih a ha (h5 a ha) (hi'.2 a ha) (if k == 2 then b + 1 else b) (bz ha (by omega))
      refine ⟨?_, Trm.shape_iff.2 ⟨by rw [List.length_map]; exact h1, h2, h3, h4, fun x hx => ?_⟩⟩
      · simp only [Trm.idxB, e1, Bool.not_false, Bool.true_or, Bool.true_and, idxBs_all, List.all_map, List.all_eq_true]
        exact fun a ha => (key a ha).1
      · obtain ⟨a, ha, rfl⟩ := List.mem_map.1 hx
        exact (key a ha).2
end Go.AM

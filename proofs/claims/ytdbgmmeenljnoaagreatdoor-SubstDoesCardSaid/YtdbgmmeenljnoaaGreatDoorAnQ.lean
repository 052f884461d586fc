/-
  Numbers put in order one by one, whatever the order in which they come.
  From a row's premise to plain data: types, terms, formulas and proofs that are handed in.
-/
import Derived.Test.YtdbgmmeenljnoaaGreatDoorAnP
import Derived.Test.YtdbgmmeenljnoaaGreatDoorAnS
import Derived.Test.YtdbgmmeenljnoaaGreatDoorAmS
import Derived.ChangeArms
import Derived.DataReads
set_option linter.unusedVariables false
set_option linter.unusedSimpArgs false
namespace Go.AM
open Go
/-- Where a number goes. -/
def insAt (n : Int) (x : List Int) : Nat → Nat
  | 0 => 0
  | i + 1 => if x.getD i 0 > n then insAt n x i else i + 1
def insR (n : Int) (x : List Int) : List Int := x.take (insAt n x x.length) ++ n :: x.drop (insAt n x x.length)
theorem insAt_le (n : Int) (x : List Int) : ∀ i, insAt n x i ≤ i
  | 0 => Nat.le_refl _
  | i + 1 => by
    unfold insAt
    split
    · exact Nat.le_succ_of_le (insAt_le n x i)
    · exact Nat.le_refl _
theorem insR_len (n : Int) (x : List Int) : (insR n x).length = x.length + 1 := by
  have := insAt_le n x x.length
  simp only [insR, List.length_append, List.length_take, List.length_cons, List.length_drop]; omega
theorem insR_perm (n : Int) (x : List Int) : (insR n x).Perm (n :: x) := by
  unfold insR
  refine List.perm_middle.trans ?_
  rw [List.take_append_drop]
theorem insAt_above (n : Int) (x : List Int) : ∀ i, ∀ j, insAt n x i ≤ j → j < i → x.getD j 0 > n
  | 0, j, _, h => by omega
  | i + 1, j, h1, h2 => by
    unfold insAt at h1
    split at h1
    · rename_i hg
      by_cases e : j = i
      · subst e; exact hg
      · exact insAt_above n x i j h1 (by omega)
    · omega
theorem insAt_below (n : Int) (x : List Int) : ∀ i, 0 < insAt n x i → x.getD (insAt n x i - 1) 0 ≤ n
  | 0, h => by simp [insAt] at h
  | i + 1, h => by
    unfold insAt at h ⊢
    split
    · rename_i hg; rw [if_pos hg] at h; exact insAt_below n x i h
    · rename_i hg; simpa using hg
theorem insR_sorted {n : Int} {x : List Int} (h : x.Pairwise (· ≤ ·)) : (insR n x).Pairwise (· ≤ ·) := by
  have hle := insAt_le n x x.length
  unfold insR
  rw [List.pairwise_append]
  refine ⟨h.sublist (List.take_sublist _ _), ?_, ?_⟩
  · rw [List.pairwise_cons]
    refine ⟨fun y hy => ?_, h.sublist (List.drop_sublist _ _)⟩
    obtain ⟨j, hj⟩ := List.getElem?_of_mem hy
    rw [List.getElem?_drop] at hj
    have hlt := (List.getElem?_eq_some_iff.1 hj).1
    have := insAt_above n x x.length _ (Nat.le_add_right _ j) hlt
    rw [List.getD_eq_getElem?_getD, hj] at this
    simp only [Option.getD_some] at this
    omega
  · intro a ha b hb
    obtain ⟨i, hi⟩ := List.getElem?_of_mem ha
    rw [List.getElem?_take] at hi
    split at hi
    · rename_i hlt
      have hmem : ∀ j y, x[j]? = some y → i ≤ j → a ≤ y := fun j y hj hij => by
        rcases Nat.lt_or_eq_of_le hij with h1 | h1
        · obtain ⟨q1, q2⟩ := List.getElem?_eq_some_iff.1 hi
          obtain ⟨q3, q4⟩ := List.getElem?_eq_some_iff.1 hj
          rw [← q2, ← q4]
          exact List.pairwise_iff_getElem.1 h i j q1 q3 h1
        · subst h1; rw [hi] at hj; injection hj with hj; omega
      rcases List.mem_cons.1 hb with rfl | hb
      · have hk : insAt b x x.length - 1 < x.length := by omega
        have h2 := insAt_below b x x.length (by omega)
        rw [List.getD_eq_getElem?_getD, List.getElem?_eq_getElem hk] at h2
        simp only [Option.getD_some] at h2
        have h3 := hmem _ _ (List.getElem?_eq_getElem hk) (by omega)
        omega
      · obtain ⟨j, hj⟩ := List.getElem?_of_mem hb
        rw [List.getElem?_drop] at hj
        exact hmem _ _ hj (by omega)
    · cases hi
def insF (n : Int) (x : List Int) : Option (List Int) := if x.length + 1 ≤ 2000000000 then some (insR n x) else none
theorem insF_all : ∀ (q x : List Int), x.length + q.length ≤ 2000000000 → x.Pairwise (· ≤ ·) → ∃ y, foldP insF q x = some y ∧ y.Perm (q ++ x) ∧ y.Pairwise (· ≤ ·)
  | [], x, _, hx => ⟨x, rfl, by simp, hx⟩
  | n :: q, x, hl, hx => by
    simp only [List.length_cons] at hl
    obtain ⟨y, h1, h2, h3⟩ := insF_all q (insR n x) (by rw [insR_len]; omega) (insR_sorted hx)
    refine ⟨y, ?_, ?_, h3⟩
    · unfold foldP
      rw [show insF n x = some (insR n x) from if_pos (by omega)]
      exact h1
    · refine h2.trans ?_
      refine ((List.Perm.append_left q (insR_perm n x)).trans List.perm_middle)
theorem sorted_unique {x y : List Int} (h : x.Perm y) (h1 : x.Pairwise (· ≤ ·)) (h2 : y.Pairwise (· ≤ ·)) : x = y :=
  h.eq_of_pairwise (fun a b _ _ hab hba => by omega) h1 h2
theorem sortI_sorted (l : List Int) : (sortI l).Pairwise (· ≤ ·) := by
  have := List.pairwise_mergeSort (le := fun x y : Int => decide (x ≤ y)) (fun a b c h1 h2 => by simp only [decide_eq_true_eq] at *; omega) (fun a b => by simp only [Bool.or_eq_true, decide_eq_true_eq]; omega) l
  exact this.imp (fun h => by simpa using h)
/-- Whatever the order, the same comes out. -/
theorem insF_sort {q l : List Int} (h : q.Perm l) (hl : l.length ≤ 2000000000) : foldP insF q [] = some (sortI l) := by
  obtain ⟨y, h1, h2, h3⟩ := insF_all q [] (by rw [h.length_eq]; simpa using hl) List.Pairwise.nil
  rw [h1]
  refine congrArg some (sorted_unique ?_ h3 (sortI_sorted l))
  rw [List.append_nil] at h2
  exact (h2.trans h).trans (List.mergeSort_perm l _).symm
/-- The inner loop: a place is sought. -/
def seekS (n : Int) (x : List Int) (k : Nat × Int → Option (List Int)) (p : Nat × Int) : Option (List Int) := match p.1 with
  | 0 => some (n :: x)
  | i + 1 => if x.getD i 0 > n then k (i, x.getD i 0) else some (x.take (i + 1) ++ n :: x.drop (i + 1))
theorem seekS_run (n : Int) (x : List Int) : ∀ (i : Nat) (h : Int), loopN (seekS n x) (i + 1) (i, h) = some (x.take (insAt n x i) ++ n :: x.drop (insAt n x i))
  | 0, h => by simp [loopN, seekS, insAt]
  | i + 1, h => by
    show seekS n x (loopN (seekS n x) (i + 1)) (i + 1, h) = _
    simp only [seekS]
    unfold insAt
    split
    · exact seekS_run n x i _
    · rfl
def seekT (n : Int) (x : List Int) (k : { p : Nat × Int // p.1 ≤ x.length } → Option (List Int)) : { p : Nat × Int // p.1 ≤ x.length } → Option (List Int)
  | ⟨(0, _), _⟩ => some (n :: x)
  | ⟨(i + 1, _), hp⟩ => if x.getD i 0 > n then k ⟨(i, x.getD i 0), Nat.le_of_succ_le hp⟩ else some (x.take (i + 1) ++ n :: x.drop (i + 1))
theorem seekT_run (n : Int) (x : List Int) : ∀ (m : Nat) (p : { p : Nat × Int // p.1 ≤ x.length }), loopN (seekT n x) m p = loopN (seekS n x) m p.1
  | 0, p => rfl
  | m + 1, ⟨(0, h), hp⟩ => rfl
  | m + 1, ⟨(i + 1, h), hp⟩ => by
    show seekT n x (loopN (seekT n x) m) ⟨(i + 1, h), hp⟩ = seekS n x (loopN (seekS n x) m) (i + 1, h)
    simp only [seekT, seekS, seekT_run n x m]
/-- What the row holds while the place is sought. -/
def seekL (x : List Int) (p : Nat × Int) : List Int := x.take p.1 ++ p.2 :: x.drop p.1
theorem seekL_len {x : List Int} {p : Nat × Int} (h : p.1 ≤ x.length) : (seekL x p).length = x.length + 1 := by
  simp only [seekL, List.length_append, List.length_take, List.length_cons, List.length_drop]; omega
theorem seekL_get {x : List Int} {i : Nat} {h : Int} (hi : i + 1 ≤ x.length) : (seekL x (i + 1, h))[i]? = some (x.getD i 0) := by
  simp only [seekL]
  rw [List.getElem?_append_left (by rw [List.length_take]; omega), List.getElem?_take, if_pos (by omega), List.getElem?_eq_getElem (by omega), List.getD_eq_getElem?_getD, List.getElem?_eq_getElem (by omega)]
  rfl
theorem seekL_at {x : List Int} {p : Nat × Int} (hi : p.1 ≤ x.length) : (seekL x p)[p.1]? = some p.2 := by
  simp only [seekL]
  rw [List.getElem?_append_right (by rw [List.length_take]; omega), List.length_take, Nat.min_eq_left hi, Nat.sub_self]
  rfl
theorem seekL_set {x : List Int} {p : Nat × Int} {v : Int} (hi : p.1 ≤ x.length) : (seekL x p).set p.1 v = x.take p.1 ++ v :: x.drop p.1 := by
  simp only [seekL]
  rw [List.set_append_right _ _ (by rw [List.length_take]; omega), List.length_take, Nat.min_eq_left hi, Nat.sub_self]
  rfl
theorem seekL_next {x : List Int} {i : Nat} (hi : i + 1 ≤ x.length) : x.take (i + 1) ++ x.getD i 0 :: x.drop (i + 1) = seekL x (i, x.getD i 0) := by
  simp only [seekL]
  have h1 : x.getD i 0 = x[i] := by rw [List.getD_eq_getElem?_getD, List.getElem?_eq_getElem (by omega)]; rfl
  rw [List.take_succ_eq_append_getElem (by omega), h1, List.drop_eq_getElem_cons (i := i) (by omega)]
  simp only [List.append_assoc, List.cons_append, List.nil_append]
end Go.AM
set_option linter.unusedVariables false
set_option linter.unusedSimpArgs false
namespace Go.AM
open Go Go.RowKit Go.ChangeShapes Go.WideShapes Go.ChangeAt
variable {H : Type} {enc : TypeId × Value → H} {P : Program} {W : World}
abbrev trd (enc : TypeId × Value → H) (P : Program) (W : World) (fuel : Nat) (t : TypeId) (cs : List Value) := DataW.trod enc P W 0 (fun _ => true) true fuel t cs
/-- A number that an int holds; trees of such numbers. -/
def inR (n : Int) : Prop := -9223372036854775808 ≤ n ∧ n ≤ 9223372036854775807
inductive TypR : Typ → Prop
  | mk {k : Int} {l : List Typ} : inR k → (∀ a ∈ l, TypR a) → TypR (.mk k l)
inductive TrmR : Trm → Prop
  | mk {k i : Int} {t : Typ} {l : List Trm} : inR k → inR i → TypR t → (∀ a ∈ l, TrmR a) → TrmR (.mk k i t l)
inductive FrmR : Frm → Prop
  | mk {k : Int} {t : Typ} {l : List Trm} {m : List Frm} : inR k → TypR t → (∀ a ∈ l, TrmR a) → (∀ a ∈ m, FrmR a) → FrmR (.mk k t l m)
inductive PrfR : Prf → Prop
  | mk {k i : Int} {t : Typ} {l : List Trm} {m : List Frm} {n : List Prf} : inR k → inR i → TypR t → (∀ a ∈ l, TrmR a) → (∀ a ∈ m, FrmR a) → (∀ a ∈ n, PrfR a) → PrfR (.mk k i t l m n)
/-- What can be read there is a datum. -/
def RdT {α : Type} (enc : TypeId × Value → H) (P : Program) (W : World) (k : Nat) (e : TypeId) (c : α → List D) (p : α → Prop) : Prop := ∀ cs x, trd enc P W k e cs = some x → ∃ a : α, p a ∧ RepVs (allOf W) (fun _ => none) ((c a).map V.d) cs
def pairsB : List (Nat × Nat) → List (Nat × Nat) → Bool
  | [], [] => true
  | (a, b) :: r, (c, d) :: s => Nat.beq a c && Nat.beq b d && pairsB r s
  | _, _ => false
theorem pairsB_eq : ∀ {xs ys : List (Nat × Nat)}, pairsB xs ys = true → xs = ys
  | [], [], _ => rfl
  | (a, b) :: r, (c, d) :: s, h => by
    simp only [pairsB, Bool.and_eq_true] at h
    rw [Nat.eq_of_beq_eq_true h.1.1, Nat.eq_of_beq_eq_true h.1.2, pairsB_eq h.2]
  | [], _ :: _, h => by simp [pairsB] at h
  | _ :: _, [], h => by simp [pairsB] at h
/-- How a struct lies: its fields' types and places, and how many cells it has. -/
def layB (P : Program) (t : TypeId) (l : List (Nat × Nat)) (n : Nat) : Bool := match P.underlying t with
  | some (.struct fs) => pairsB (fs.toList.map fun f => (f.type, f.offset)) l && Nat.beq (P.cellsOf t) n
  | _ => false
theorem layB_und {t n : Nat} {l : List (Nat × Nat)} (h : layB P t l n = true) : ∃ fs, P.underlying t = some (.struct fs) := by
  unfold layB at h
  split at h
  · exact ⟨_, by assumption⟩
  · cases h
theorem lay_rd {t k n : Nat} {l : List (Nat × Nat)} (hB : layB P t l n = true) {cs : List Value} {x : DataW H × List MemPlace} (h : trd enc P W k t cs = some x) :
    ∃ k', k = k' + 1 ∧ cs.length = n ∧ ∀ j ft off : Nat, l[j]? = some (ft, off) → ∃ y, trd enc P W k' ft ((cs.drop off).take (P.cellsOf ft)) = some y := by
  unfold layB at hB
  split at hB
  · rename_i fs hu
    simp only [Bool.and_eq_true] at hB
    obtain ⟨xs, k', hk, _, hl, hxl, hf⟩ := DataW.trod_struct hu h
    refine ⟨k', hk, by rw [hl]; exact Nat.eq_of_beq_eq_true hB.2, fun j ft off hj => ?_⟩
    rw [← pairsB_eq hB.1, List.getElem?_map, Option.map_eq_some_iff] at hj
    obtain ⟨f, h1, h2⟩ := hj
    injection h2 with h2 h3
    subst h2; subst h3
    rw [Array.getElem?_toList] at h1
    have hlt : j < fs.size := (Array.getElem?_eq_some_iff.1 h1).1
    have := hf j f h1
    rw [List.getElem?_eq_getElem (by omega)] at this
    exact ⟨_, this⟩
  · cases hB
theorem rd_int {t k : Nat} (ht : P.underlying t = some (.int .i64)) : RdT enc P W k t cInt inR := fun cs x h => by
  obtain ⟨n, rfl, _, hw⟩ := DataW.trod_int ht h
  simp only [Lit.wf, Bool.and_eq_true, decide_eq_true_eq] at hw
  rw [show IntKind.i64.min = -9223372036854775808 by decide, show IntKind.i64.max = 9223372036854775807 by decide] at hw
  exact ⟨n, hw, by simp [cInt, RepVs, RepV, RepD]⟩
theorem repRows_of {M : Mem} {α : Type} {c : α → List D} {n : Nat} (hc : ∀ a, (c a).length = n) {a : Addr} (hs : a.spot = none) : ∀ {l : List α} {j : Nat}, (∀ i x, l[i]? = some x → ∃ ci, RepVs M (fun _ => none) ((c x).map V.d) ci ∧ ∀ q v, ci[q]? = some v → M (a.add ((j + i) * n + q)) = some v) → RepRows M (l.map c) (a.add (j * n))
  | [], j, _ => by simp [RepRows]
  | x :: l, j, h => by
    simp only [List.map_cons, RepRows]
    obtain ⟨ci, h1, h2⟩ := h 0 x rfl
    refine ⟨RepRow.of (add_spot hs _) h1 fun q v hq => ?_, ?_⟩
    · have := h2 q v hq
      rw [add_add hs]
      simpa using this
    · rw [hc x, add_add hs, show j * n + n = (j + 1) * n by rw [Nat.succ_mul]]
      refine repRows_of hc hs fun i y hy => ?_
      obtain ⟨ci, h3, h4⟩ := h (i + 1) y (by simpa using hy)
      exact ⟨ci, h3, fun q v hq => by have := h4 q v hq; rwa [show j + (i + 1) = j + 1 + i by omega] at this⟩
theorem addA (a : Addr) (i j : Nat) : (a.add i).add j = a.add (i + j) := by
  unfold Addr.add
  by_cases hi : i = 0 <;> by_cases hj : j = 0 <;> simp [hi, hj, Nat.add_assoc]
theorem choose_list {α : Type} {q : Nat → α → Prop} : ∀ {n : Nat}, (∀ i, i < n → ∃ a, q i a) → ∃ l : List α, l.length = n ∧ ∀ i a, l[i]? = some a → q i a
  | 0, _ => ⟨[], rfl, fun i a h => by simp at h⟩
  | n + 1, h => by
    obtain ⟨l, h1, h2⟩ := choose_list (n := n) fun i hi => h i (by omega)
    obtain ⟨a, ha⟩ := h n (by omega)
    refine ⟨l ++ [a], by simp [h1], fun i b hb => ?_⟩
    by_cases hi : i < l.length
    · rw [List.getElem?_append_left hi] at hb; exact h2 i b hb
    · rw [List.getElem?_append_right (by omega)] at hb
      have : i - l.length = 0 := by
        have := (List.getElem?_eq_some_iff.1 hb).1
        simp at this; omega
      rw [this] at hb
      simp at hb
      subst hb
      rwa [show i = n by omega]
theorem rd_slice {α : Type} {t e k n : Nat} {c : α → List D} {pp : α → Prop} (ht : P.underlying t = some (.slice e)) (he : P.cellsOf e = n) (hn : 0 < n) (hc : ∀ a, (c a).length = n) (h : ∀ k', k' < k → RdT enc P W k' e c pp) : RdT enc P W k t (fun l : List α => [.slice (l.map c)]) (fun l => ∀ a ∈ l, pp a) := fun cs x hx => by
  rcases DataW.trod_slice ht hx with ⟨rfl, _⟩ | ⟨a, len, cap, elems, rest, k', rfl, rfl, _, hb, hl, hm, hlen, hel, _⟩
  · refine ⟨[], fun a ha => absurd ha (by simp), ?_⟩
    simp only [List.map_nil, List.map_cons, RepVs, RepV]
    exact ⟨_, _, rfl, RepD.nil_slice, rfl⟩
  · have each : ∀ i, i < len → ∃ y : α, pp y ∧ ∃ ci, RepVs (allOf W) (fun _ => none) ((c y).map V.d) ci ∧ ∀ q v, ci[q]? = some v → W.cell? (a.add (i * n + q)) = some v ∧ (a.add (i * n)).spot = none := fun i hi => by
      have h1 := hel i hi
      rw [List.getElem?_eq_getElem (by omega), he] at h1
      obtain ⟨ci, h2, h3⟩ := Option.bind_eq_some_iff.1 h1
      obtain ⟨y, hpy, hy⟩ := h k' (Nat.lt_succ_self _) ci _ h3
      obtain ⟨_, q1, q2⟩ := World.cells?_some h2
      have hsp : (a.add (i * n)).spot = none := by
        have := q2 0 hn
        rw [List.getElem?_eq_getElem (by omega)] at this
        have := cell_spot this
        simpa [Addr.add] using this
      refine ⟨y, hpy, ci, hy, fun q v hq => ⟨?_, hsp⟩⟩
      have hq' := (List.getElem?_eq_some_iff.1 hq).1
      rw [← addA, q2 q (by omega)]; exact hq
    obtain ⟨l, h1, h2⟩ := choose_list each
    refine ⟨l, fun a ha => ?_, ?_⟩
    · obtain ⟨i, hi, rfl⟩ := List.getElem_of_mem ha
      exact (h2 i _ (List.getElem?_eq_getElem hi)).1
    simp only [List.map_cons, List.map_nil, RepVs, RepV, RepD]
    refine ⟨_, _, rfl, ⟨some a, cap, n, by simp [h1], by simpa [h1] using hl, by simp [h1]; omega, mp_sz hc, fun hne => ?_⟩, rfl⟩
    have hpos : 0 < len := by
      cases l with
      | nil => simp at hne
      | cons x l => simp at h1; omega
    have hs : a.spot = none := by
      obtain ⟨y, _, ci, h3, h4⟩ := each 0 hpos
      have hlc := h3.length
      rw [List.length_map, hc] at hlc
      have := (h4 0 ci[0] (List.getElem?_eq_getElem (by omega))).2
      simpa [Addr.add] using this
    refine ⟨a, rfl, hs, ?_⟩
    have := repRows_of (M := allOf W) hc hs (l := l) (j := 0) fun i x hi => by
      obtain ⟨_, ci, h3, h4⟩ := h2 i x hi
      exact ⟨ci, h3, fun q v hq => by have := (h4 q v hq).1; simpa [allOf] using this⟩
    simpa [Addr.add] using this
/-- Where types, terms, formulas and proofs lie in a program. -/
structure LayT (P : Program) (int ty tys : TypeId) : Prop where
  i : P.underlying int = some (.int .i64)
  i1 : P.cellsOf int = 1
  l : layB P ty [(int, 0), (tys, 1)] 2 = true
  s : P.underlying tys = some (.slice ty)
  s1 : P.cellsOf tys = 1
  z : P.cellsOf ty = 2
theorem rd_typ {int ty tys : TypeId} (L : LayT P int ty tys) : ∀ k, RdT enc P W k ty dTy TypR := by
  intro k
  induction k using Nat.strongRecOn with
  | _ k ih =>
    intro cs x hx
    obtain ⟨k', rfl, hl, hf⟩ := lay_rd L.l hx
    match cs, hl with
    | [c0, c1], _ =>
      obtain ⟨y0, h0⟩ := hf 0 int 0 rfl
      obtain ⟨y1, h1⟩ := hf 1 tys 1 rfl
      rw [L.i1] at h0
      rw [L.s1] at h1
      obtain ⟨a0, p0, r0⟩ := rd_int L.i _ _ h0
      obtain ⟨a1, p1, r1⟩ := rd_slice L.s L.z (by decide) (fun a => rfl) (fun k2 h2 => ih k2 (by omega)) _ _ h1
      refine ⟨.mk a0 a1, .mk p0 p1, ?_⟩
      simp only [← dTys_map] at r1
      exact r0.append r1
structure LayM (P : Program) (int ty tys tm tms : TypeId) : Prop where
  t : LayT P int ty tys
  l : layB P tm [(int, 0), (int, 1), (ty, 2), (tms, 4)] 5 = true
  s : P.underlying tms = some (.slice tm)
  s1 : P.cellsOf tms = 1
  z : P.cellsOf tm = 5
theorem rd_trm {int ty tys tm tms : TypeId} (L : LayM P int ty tys tm tms) : ∀ k, RdT enc P W k tm dTm TrmR := by
  intro k
  induction k using Nat.strongRecOn with
  | _ k ih =>
    intro cs x hx
    obtain ⟨k', rfl, hl, hf⟩ := lay_rd L.l hx
    match cs, hl with
    | [c0, c1, c2, c3, c4], _ =>
      obtain ⟨y0, h0⟩ := hf 0 int 0 rfl
      obtain ⟨y1, h1⟩ := hf 1 int 1 rfl
      obtain ⟨y2, h2⟩ := hf 2 ty 2 rfl
      obtain ⟨y3, h3⟩ := hf 3 tms 4 rfl
      rw [L.t.i1] at h0 h1
      rw [L.t.z] at h2
      rw [L.s1] at h3
      obtain ⟨a0, p0, r0⟩ := rd_int L.t.i _ _ h0
      obtain ⟨a1, p1, r1⟩ := rd_int L.t.i _ _ h1
      obtain ⟨a2, p2, r2⟩ := rd_typ L.t _ _ _ h2
      obtain ⟨a3, p3, r3⟩ := rd_slice L.s L.z (by decide) (fun a => rfl) (fun k2 h2 => ih k2 (by omega)) _ _ h3
      refine ⟨.mk a0 a1 a2 a3, .mk p0 p1 p2 p3, ?_⟩
      simp only [← dTms_map] at r3
      exact ((r0.append r1).append r2).append r3
structure LayF (P : Program) (int ty tys tm tms fm fms : TypeId) : Prop where
  t : LayM P int ty tys tm tms
  l : layB P fm [(int, 0), (ty, 1), (tms, 3), (fms, 4)] 5 = true
  s : P.underlying fms = some (.slice fm)
  s1 : P.cellsOf fms = 1
  z : P.cellsOf fm = 5
theorem rd_frm {int ty tys tm tms fm fms : TypeId} (L : LayF P int ty tys tm tms fm fms) : ∀ k, RdT enc P W k fm dFm FrmR := by
  intro k
  induction k using Nat.strongRecOn with
  | _ k ih =>
    intro cs x hx
    obtain ⟨k', rfl, hl, hf⟩ := lay_rd L.l hx
    match cs, hl with
    | [c0, c1, c2, c3, c4], _ =>
      obtain ⟨y0, h0⟩ := hf 0 int 0 rfl
      obtain ⟨y1, h1⟩ := hf 1 ty 1 rfl
      obtain ⟨y2, h2⟩ := hf 2 tms 3 rfl
      obtain ⟨y3, h3⟩ := hf 3 fms 4 rfl
      rw [L.t.t.i1] at h0
      rw [L.t.t.z] at h1
      rw [L.t.s1] at h2
      rw [L.s1] at h3
      obtain ⟨a0, p0, r0⟩ := rd_int L.t.t.i _ _ h0
      obtain ⟨a1, p1, r1⟩ := rd_typ L.t.t _ _ _ h1
      obtain ⟨a2, p2, r2⟩ := rd_slice L.t.s L.t.z (by decide) (fun a => rfl) (fun k2 _ => rd_trm L.t k2) _ _ h2
      obtain ⟨a3, p3, r3⟩ := rd_slice L.s L.z (by decide) (fun a => rfl) (fun k2 h2 => ih k2 (by omega)) _ _ h3
      refine ⟨.mk a0 a1 a2 a3, .mk p0 p1 p2 p3, ?_⟩
      simp only [← dTms_map] at r2
      simp only [← dFms_map] at r3
      exact ((r0.append r1).append r2).append r3
structure LayP (P : Program) (int ty tys tm tms fm fms pf pfs : TypeId) : Prop where
  t : LayF P int ty tys tm tms fm fms
  l : layB P pf [(int, 0), (int, 1), (ty, 2), (tms, 4), (fms, 5), (pfs, 6)] 7 = true
  s : P.underlying pfs = some (.slice pf)
  s1 : P.cellsOf pfs = 1
  z : P.cellsOf pf = 7
theorem rd_prf {int ty tys tm tms fm fms pf pfs : TypeId} (L : LayP P int ty tys tm tms fm fms pf pfs) : ∀ k, RdT enc P W k pf dPf PrfR := by
  intro k
  induction k using Nat.strongRecOn with
  | _ k ih =>
    intro cs x hx
    obtain ⟨k', rfl, hl, hf⟩ := lay_rd L.l hx
    match cs, hl with
    | [c0, c1, c2, c3, c4, c5, c6], _ =>
      obtain ⟨y0, h0⟩ := hf 0 int 0 rfl
      obtain ⟨y1, h1⟩ := hf 1 int 1 rfl
      obtain ⟨y2, h2⟩ := hf 2 ty 2 rfl
      obtain ⟨y3, h3⟩ := hf 3 tms 4 rfl
      obtain ⟨y4, h4⟩ := hf 4 fms 5 rfl
      obtain ⟨y5, h5⟩ := hf 5 pfs 6 rfl
      rw [L.t.t.t.i1] at h0 h1
      rw [L.t.t.t.z] at h2
      rw [L.t.t.s1] at h3
      rw [L.t.s1] at h4
      rw [L.s1] at h5
      obtain ⟨a0, p0, r0⟩ := rd_int L.t.t.t.i _ _ h0
      obtain ⟨a1, p1, r1⟩ := rd_int L.t.t.t.i _ _ h1
      obtain ⟨a2, p2, r2⟩ := rd_typ L.t.t.t _ _ _ h2
      obtain ⟨a3, p3, r3⟩ := rd_slice L.t.t.s L.t.t.z (by decide) (fun a => rfl) (fun k2 _ => rd_trm L.t.t k2) _ _ h3
      obtain ⟨a4, p4, r4⟩ := rd_slice L.t.s L.t.z (by decide) (fun a => rfl) (fun k2 _ => rd_frm L.t k2) _ _ h4
      obtain ⟨a5, p5, r5⟩ := rd_slice L.s L.z (by decide) (fun a => rfl) (fun k2 h2 => ih k2 (by omega)) _ _ h5
      refine ⟨.mk a0 a1 a2 a3 a4 a5, .mk p0 p1 p2 p3 p4 p5, ?_⟩
      simp only [← dTms_map] at r3
      simp only [← dFms_map] at r4
      simp only [← dPfs_map] at r5
      exact ((((r0.append r1).append r2).append r3).append r4).append r5
/-- An argument that is a struct. -/
theorem op_agg {α : Type} {t : TypeId} {c : α → List D} {fs : Array Field} {v : Value} {d : DataW H} {p : List MemPlace} {r : Reach} {b0 : Nat} (ht : P.underlying t = some (.struct fs)) {pp : α → Prop} (hr : ∀ k, RdT enc P W k t c pp) (hval : Value.okWide P W r b0 t v) (h0 : DataW.Trod enc P W 0 (fun _ => true) true t v d p) :
    ∃ a : α, pp a ∧ RepV (allOf W) (fun _ => none) (.agg ((c a).map V.d)) v := by
  obtain ⟨cs, rfl, _⟩ := okWide_struct ht hval
  obtain ⟨k, hk⟩ := h0
  obtain ⟨a, hp, ha⟩ := hr k _ _ hk
  refine ⟨a, hp, ?_⟩
  simp only [Value.cells] at ha
  simp only [RepV]
  exact ⟨cs.toList, by simp, ha, RepVs.d_one ha⟩
/-- An argument that is a slice of structs. -/
theorem op_sl {α : Type} {t e n : TypeId} {c : α → List D} {v : Value} {d : DataW H} {p : List MemPlace} {r : Reach} {b0 : Nat} (ht : P.underlying t = some (.slice e)) (he : P.cellsOf e = n) (hn : 0 < n) (hc : ∀ a, (c a).length = n) {pp : α → Prop} (hr : ∀ k, RdT enc P W k e c pp) (hval : Value.okWide P W r b0 t v) (h0 : DataW.Trod enc P W 0 (fun _ => true) true t v d p) :
    ∃ l : List α, (∀ a ∈ l, pp a) ∧ RepV (allOf W) (fun _ => none) (.d (.slice (l.map c))) v := by
  obtain ⟨a, len, cap, rfl⟩ := okWide_slice ht hval
  obtain ⟨k, hk⟩ := h0
  obtain ⟨l, hp, hl⟩ := rd_slice ht he hn hc (fun k _ => hr k) _ _ hk
  refine ⟨l, hp, ?_⟩
  simp only [Value.cells, List.map_cons, List.map_nil, RepVs] at hl
  obtain ⟨v, r, h1, h2, _⟩ := hl
  injection h1 with h1; subst h1; exact h2
theorem TrmR.idx {N : Int} (hN : 9223372036854775807 ≤ N) (t : Trm) : TrmR t → t.idxB N = true := by
  induction t using Trm.ind with
  | _ k i ty l ih =>
    rintro ⟨_, h, _, hl⟩
    have h2 := h.2
    simp only [Trm.idxB, Bool.and_eq_true, Bool.or_eq_true, decide_eq_true_eq]
    refine ⟨.inr (by omega), ?_⟩
    have : ∀ l : List Trm, (∀ a ∈ l, a.idxB N = true) → idxBs N l = true := by
      intro l
      induction l with
      | nil => intro _; rfl
      | cons a l ih2 => intro h; simp only [idxBs, Bool.and_eq_true]; exact ⟨h a List.mem_cons_self, ih2 fun b hb => h b (List.mem_cons_of_mem _ hb)⟩
    exact this l fun a ha => ih a ha (hl a ha)
end Go.AM

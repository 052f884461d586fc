/-
  Types and terms as plain trees, what stands for them in the store, and what the functions that go through them answer.
  The types of terms, as the second form finds them.
-/
import Derived.Test.YtdbgmmeenljnoaaGreatDoorAmJ
set_option linter.unusedVariables false
set_option linter.unusedSimpArgs false
namespace Go.AM
open Go Go.RowKit

inductive Typ where
  | mk (kind : Int) (args : List Typ)
def Typ.kind : Typ → Int | .mk k _ => k
def Typ.args : Typ → List Typ | .mk _ l => l
@[simp] theorem Typ.kind_mk (k : Int) (l : List Typ) : (Typ.mk k l).kind = k := rfl
@[simp] theorem Typ.args_mk (k : Int) (l : List Typ) : (Typ.mk k l).args = l := rfl
theorem Typ.ind {p : Typ → Prop} (h : ∀ k l, (∀ a ∈ l, p a) → p (.mk k l)) (t : Typ) : p t :=
  Typ.rec (motive_1 := p) (motive_2 := fun l => ∀ a ∈ l, p a) (fun k l ih => h k l ih) (fun a ha => by cases ha)
    (fun a l ha hl b hb => (List.mem_cons.1 hb).elim (fun e => e ▸ ha) (hl b)) t
mutual
def dTyR : Typ → List D
  | .mk k l => [.int .i64 k, .slice (dTys l)]
def dTys : List Typ → List (List D)
  | [] => []
  | a :: l => dTyR a :: dTys l
end
def dTy (t : Typ) : List D := [.int .i64 t.kind, .slice (dTys t.args)]
theorem dTyR_eq (t : Typ) : dTyR t = dTy t := by cases t; rfl
theorem dTys_cons (a : Typ) (l : List Typ) : dTys (a :: l) = dTy a :: dTys l := by rw [← dTyR_eq]; rfl
theorem dTys_map : ∀ l, dTys l = l.map dTy
  | [] => rfl
  | a :: l => by rw [dTys_cons, dTys_map l]; rfl
theorem dTys_len (l : List Typ) : (dTys l).length = l.length := by rw [dTys_map, List.length_map]
theorem dTys_sz (l : List Typ) : ∀ e ∈ dTys l, e.length = 2 := fun e he => by
  rw [dTys_map] at he
  obtain ⟨t, _, rfl⟩ := List.mem_map.1 he
  rfl
theorem dTys_app (l r : List Typ) : dTys l ++ dTys r = dTys (l ++ r) := by rw [dTys_map, dTys_map, dTys_map, List.map_append]
theorem dTys_one (a : Typ) : [dTy a] = dTys [a] := by rw [dTys_map]; rfl
theorem dTys_two (a b : Typ) : [dTy a, dTy b] = dTys [a, b] := by rw [dTys_map]; rfl
theorem dTys_three (a b c : Typ) : [dTy a, dTy b, dTy c] = dTys [a, b, c] := by rw [dTys_map]; rfl
theorem dTys_push (l : List Typ) (a : Typ) : dTys l ++ [dTy a] = dTys (l ++ [a]) := by rw [dTys_one, dTys_app]
theorem dTys_get {l : List Typ} {i : Nat} {a : Typ} (h : l[i]? = some a) : (dTys l)[i]? = some (dTy a) := by rw [dTys_map, List.getElem?_map, h]; rfl
def vTy (t : Typ) : V := .agg ((dTy t).map V.d)

mutual
def Typ.sz : Typ → Nat
  | .mk _ l => 1 + szTys l
def szTys : List Typ → Nat
  | [] => 0
  | a :: l => a.sz + szTys l
end
theorem Typ.sz_pos (t : Typ) : 1 ≤ t.sz := by cases t; simp [Typ.sz]
theorem szTys_app (l r : List Typ) : szTys (l ++ r) = szTys l + szTys r := by
  induction l with
  | nil => simp [szTys]
  | cons a l ih => simp [szTys, ih]; omega
theorem szTys_len : ∀ l, l.length ≤ szTys l
  | [] => by simp [szTys]
  | a :: l => by
    have h := szTys_len l
    have := a.sz_pos
    simp [szTys]; omega
theorem szTys_mem {a : Typ} : ∀ {l : List Typ}, a ∈ l → a.sz ≤ szTys l
  | b :: l, h => by
    rcases List.mem_cons.1 h with rfl | h
    · simp [szTys]
    · have := szTys_mem h; simp [szTys]; omega
theorem szTys_take_le (l : List Typ) (i : Nat) : szTys (l.take i) ≤ szTys l := by
  have h := szTys_app (l.take i) (l.drop i)
  rw [List.take_append_drop] at h; omega
theorem take_succ_of {α : Type} {l : List α} {i : Nat} {a : α} (h : l[i]? = some a) : l.take (i + 1) = l.take i ++ [a] := by
  rw [List.take_add_one, h]; rfl
theorem szTys_take_succ {l : List Typ} {i : Nat} {a : Typ} (h : l[i]? = some a) : szTys (l.take (i + 1)) = szTys (l.take i) + a.sz := by
  rw [take_succ_of h, szTys_app]; simp [szTys]

/-- The number of parts that the form of a kind of types asks for. -/
def wantTy (k : Int) : Option Nat := if k == 1 || k == 2 || k == 5 then some 0 else if k == 3 || k == 4 then some 2 else none
mutual
def Typ.shape : Typ → Bool
  | .mk k l => wantTy k == some l.length && shapeTys l
def shapeTys : List Typ → Bool
  | [] => true
  | a :: l => a.shape && shapeTys l
end
theorem shapeTys_iff : ∀ {l : List Typ}, shapeTys l = true ↔ ∀ a ∈ l, a.shape = true
  | [] => by simp [shapeTys]
  | a :: l => by simp [shapeTys, shapeTys_iff (l := l)]
mutual
def Typ.same : Typ → Typ → Bool
  | .mk k l, .mk k' l' => k == k' && sameTys l l'
def sameTys : List Typ → List Typ → Bool
  | [], [] => true
  | a :: l, b :: r => a.same b && sameTys l r
  | _, _ => false
end
theorem sameTys_iff : ∀ {l r : List Typ}, sameTys l r = true ↔ l.length = r.length ∧ ∀ (i : Nat) a b, l[i]? = some a → r[i]? = some b → a.same b = true
  | [], [] => by simp [sameTys]
  | [], b :: r => by simp [sameTys]
  | a :: l, [] => by simp [sameTys]
  | a :: l, b :: r => by
    simp only [sameTys, Bool.and_eq_true, sameTys_iff (l := l) (r := r), List.length_cons]
    constructor
    · rintro ⟨h1, h2, h3⟩
      refine ⟨by omega, fun i x y hx hy => ?_⟩
      cases i with
      | zero => simp at hx hy; subst hx; subst hy; exact h1
      | succ i => simp at hx hy; exact h3 i x y hx hy
    · rintro ⟨h1, h2⟩
      exact ⟨h2 0 a b rfl rfl, by omega, fun i x y hx hy => h2 (i + 1) x y (by simpa using hx) (by simpa using hy)⟩
theorem same_eq (t : Typ) : ∀ u, t.same u = true ↔ t = u := by
  induction t using Typ.ind with
  | _ k l ih =>
    rintro ⟨k', l'⟩
    simp only [Typ.same, Bool.and_eq_true, beq_iff_eq, sameTys_iff, Typ.mk.injEq]
    refine and_congr_right fun _ => ⟨fun ⟨h1, h2⟩ => List.ext_getElem? fun i => ?_, fun h => by subst h; exact ⟨rfl, fun i a b ha hb => by rw [ha] at hb; injection hb with hb; exact (ih a (List.mem_of_getElem? ha) b).2 hb⟩⟩
    by_cases hi : i < l.length
    · have e1 := List.getElem?_eq_getElem hi
      have e2 := List.getElem?_eq_getElem (l := l') (i := i) (by omega)
      rw [e1, e2, (ih _ (List.getElem_mem hi) _).1 (h2 i _ _ e1 e2)]
    · rw [List.getElem?_eq_none (by omega), List.getElem?_eq_none (by omega)]

theorem nat_beq (n m : Nat) : ((n : Int) == (m : Int)) = (n == m) := by rw [Bool.eq_iff_iff, beq_iff_eq, beq_iff_eq]; omega
theorem nat_bne (n m : Nat) : ((n : Int) != (m : Int)) = (n != m) := by rw [bne, bne, nat_beq]
theorem nat_beq0 (n : Nat) : ((n : Int) == 0) = (n == 0) := nat_beq n 0

/-! Terms -/
inductive Trm where
  | mk (kind index : Int) (ty : Typ) (args : List Trm)
def Trm.kind : Trm → Int | .mk k _ _ _ => k
def Trm.index : Trm → Int | .mk _ i _ _ => i
def Trm.ty : Trm → Typ | .mk _ _ t _ => t
def Trm.args : Trm → List Trm | .mk _ _ _ l => l
@[simp] theorem Trm.kind_mk (k i : Int) (t : Typ) (l : List Trm) : (Trm.mk k i t l).kind = k := rfl
@[simp] theorem Trm.index_mk (k i : Int) (t : Typ) (l : List Trm) : (Trm.mk k i t l).index = i := rfl
@[simp] theorem Trm.ty_mk (k i : Int) (t : Typ) (l : List Trm) : (Trm.mk k i t l).ty = t := rfl
@[simp] theorem Trm.args_mk (k i : Int) (t : Typ) (l : List Trm) : (Trm.mk k i t l).args = l := rfl
theorem Trm.ind {p : Trm → Prop} (h : ∀ k i t l, (∀ a ∈ l, p a) → p (.mk k i t l)) (t : Trm) : p t :=
  Trm.rec (motive_1 := p) (motive_2 := fun l => ∀ a ∈ l, p a) (fun k i t l ih => h k i t l ih) (fun a ha => by cases ha)
    (fun a l ha hl b hb => (List.mem_cons.1 hb).elim (fun e => e ▸ ha) (hl b)) t
mutual
def dTmR : Trm → List D
  | .mk k i t l => [.int .i64 k, .int .i64 i, .int .i64 t.kind, .slice (dTys t.args), .slice (dTms l)]
def dTms : List Trm → List (List D)
  | [] => []
  | a :: l => dTmR a :: dTms l
end
def dTm (t : Trm) : List D := [.int .i64 t.kind, .int .i64 t.index, .int .i64 t.ty.kind, .slice (dTys t.ty.args), .slice (dTms t.args)]
theorem dTmR_eq (t : Trm) : dTmR t = dTm t := by cases t; rfl
theorem dTms_cons (a : Trm) (l : List Trm) : dTms (a :: l) = dTm a :: dTms l := by rw [← dTmR_eq]; rfl
theorem dTms_map : ∀ l, dTms l = l.map dTm
  | [] => rfl
  | a :: l => by rw [dTms_cons, dTms_map l]; rfl
theorem dTms_len (l : List Trm) : (dTms l).length = l.length := by rw [dTms_map, List.length_map]
theorem dTms_sz (l : List Trm) : ∀ e ∈ dTms l, e.length = 5 := fun e he => by
  rw [dTms_map] at he
  obtain ⟨t, _, rfl⟩ := List.mem_map.1 he
  rfl
theorem dTms_app (l r : List Trm) : dTms l ++ dTms r = dTms (l ++ r) := by rw [dTms_map, dTms_map, dTms_map, List.map_append]
theorem dTms_one (a : Trm) : [dTm a] = dTms [a] := by rw [dTms_map]; rfl
theorem dTms_two (a b : Trm) : [dTm a, dTm b] = dTms [a, b] := by rw [dTms_map]; rfl
theorem dTms_three (a b c : Trm) : [dTm a, dTm b, dTm c] = dTms [a, b, c] := by rw [dTms_map]; rfl
theorem dTms_push (l : List Trm) (a : Trm) : dTms l ++ [dTm a] = dTms (l ++ [a]) := by rw [dTms_one, dTms_app]
theorem dTms_get {l : List Trm} {i : Nat} {a : Trm} (h : l[i]? = some a) : (dTms l)[i]? = some (dTm a) := by rw [dTms_map, List.getElem?_map, h]; rfl
def vTm (t : Trm) : V := .agg ((dTm t).map V.d)

/- The nodes of a term, without those of types; and with them. -/
mutual
def Trm.sz : Trm → Nat
  | .mk _ _ _ l => 1 + szTms l
def szTms : List Trm → Nat
  | [] => 0
  | a :: l => a.sz + szTms l
end
mutual
def Trm.big : Trm → Nat
  | .mk _ _ t l => 1 + t.sz + bigTms l
def bigTms : List Trm → Nat
  | [] => 0
  | a :: l => a.big + bigTms l
end
theorem Trm.sz_pos (t : Trm) : 1 ≤ t.sz := by cases t; simp [Trm.sz]
theorem Trm.big_pos (t : Trm) : 1 ≤ t.big := by cases t; simp [Trm.big]; omega
theorem szTms_app (l r : List Trm) : szTms (l ++ r) = szTms l + szTms r := by
  induction l with
  | nil => simp [szTms]
  | cons a l ih => simp [szTms, ih]; omega
theorem bigTms_app (l r : List Trm) : bigTms (l ++ r) = bigTms l + bigTms r := by
  induction l with
  | nil => simp [bigTms]
  | cons a l ih => simp [bigTms, ih]; omega
theorem szTms_len : ∀ l, l.length ≤ szTms l
  | [] => by simp [szTms]
  | a :: l => by
    have h := szTms_len l
    have := a.sz_pos
    simp [szTms]; omega
theorem bigTms_len : ∀ l, l.length ≤ bigTms l
  | [] => by simp [bigTms]
  | a :: l => by
    have h := bigTms_len l
    have := a.big_pos
    simp [bigTms]; omega
theorem szTms_mem {a : Trm} : ∀ {l : List Trm}, a ∈ l → a.sz ≤ szTms l
  | b :: l, h => by
    rcases List.mem_cons.1 h with rfl | h
    · simp [szTms]
    · have := szTms_mem h; simp [szTms]; omega
theorem bigTms_mem {a : Trm} : ∀ {l : List Trm}, a ∈ l → a.big ≤ bigTms l
  | b :: l, h => by
    rcases List.mem_cons.1 h with rfl | h
    · simp [bigTms]
    · have := bigTms_mem h; simp [bigTms]; omega
theorem szTms_take_le (l : List Trm) (i : Nat) : szTms (l.take i) ≤ szTms l := by
  have h := szTms_app (l.take i) (l.drop i)
  rw [List.take_append_drop] at h; omega
theorem szTms_take_succ {l : List Trm} {i : Nat} {a : Trm} (h : l[i]? = some a) : szTms (l.take (i + 1)) = szTms (l.take i) + a.sz := by
  rw [take_succ_of h, szTms_app]; simp [szTms]
theorem szTms_le_big : ∀ l : List Trm, (∀ a ∈ l, a.sz ≤ a.big) → szTms l ≤ bigTms l
  | [], _ => by simp [szTms, bigTms]
  | a :: l, h => by
    have h1 := h a (List.mem_cons_self ..)
    have h2 := szTms_le_big l (fun b hb => h b (List.mem_cons_of_mem _ hb))
    simp [szTms, bigTms]; omega
theorem Trm.sz_le_big (t : Trm) : t.sz ≤ t.big := by
  induction t using Trm.ind with
  | _ k i t l ih =>
    have := szTms_le_big l ih
    simp [Trm.sz, Trm.big]; omega

/-- The arity of a kind of terms. -/
def arity (k : Int) : Option Nat :=
  if k == 1 || k == 4 || k == 7 || k == 13 then some 0 else if k == 2 || k == 5 || k == 11 || k == 12 then some 1
  else if k == 3 || k == 8 || k == 10 then some 2 else if k == 6 || k == 9 then some 3 else none
def arCells : List D := [.int .i64 0, .int .i64 0, .int .i64 1, .int .i64 2, .int .i64 0, .int .i64 1, .int .i64 3, .int .i64 0, .int .i64 2, .int .i64 3, .int .i64 2, .int .i64 1, .int .i64 1, .int .i64 0]
theorem arity_none {k : Int} (h : k < 1 ∨ 14 ≤ k) : arity k = none := by
  have : ∀ n : Int, 1 ≤ n → n < 14 → (k == n) = false := fun n _ _ => by rw [Bool.eq_false_iff]; intro e; rw [beq_iff_eq] at e; omega
  simp [arity, this]
theorem arity_some {k : Int} (h0 : 1 ≤ k) (h1 : k < 14) : ∃ n : Nat, arity k = some n ∧ (arCells.drop (k.toNat * 1))[0]? = some (.int .i64 n) := by
  obtain ⟨j, rfl⟩ : ∃ j : Nat, k = j := ⟨k.toNat, by omega⟩
  match j, h0, h1 with
  | 1, _, _ => exact ⟨0, rfl, rfl⟩
  | 2, _, _ => exact ⟨1, rfl, rfl⟩
  | 3, _, _ => exact ⟨2, rfl, rfl⟩
  | 4, _, _ => exact ⟨0, rfl, rfl⟩
  | 5, _, _ => exact ⟨1, rfl, rfl⟩
  | 6, _, _ => exact ⟨3, rfl, rfl⟩
  | 7, _, _ => exact ⟨0, rfl, rfl⟩
  | 8, _, _ => exact ⟨2, rfl, rfl⟩
  | 9, _, _ => exact ⟨3, rfl, rfl⟩
  | 10, _, _ => exact ⟨2, rfl, rfl⟩
  | 11, _, _ => exact ⟨1, rfl, rfl⟩
  | 12, _, _ => exact ⟨1, rfl, rfl⟩
  | 13, _, _ => exact ⟨0, rfl, rfl⟩
  | 0, h, _ => omega
  | n + 14, _, h => omega
def typed (k : Int) : Bool := k == 2 || k == 6 || k == 9
/-- A type is of a form and of a size that is allowed. -/
def Typ.okB (t : Typ) : Bool := t.shape && decide (t.sz ≤ 64)
def Typ.none (t : Typ) : Bool := t.kind == 0 && t.args.length == 0
/-- The error of a type. -/
def Typ.err (t : Typ) : Int := if t.shape then (if 64 < t.sz then 4 else 0) else 2
theorem Typ.err_ok (t : Typ) : (t.err == 0) = t.okB := by
  unfold Typ.err Typ.okB
  cases t.shape <;> simp
  split <;> simp_all <;> omega
mutual
def Trm.shape : Trm → Bool
  | .mk k i t l => arity k == some l.length && decide (0 ≤ i) && (i == 0 || k == 1) && (if typed k then t.okB else t.none) && shapeTms l
def shapeTms : List Trm → Bool
  | [] => true
  | a :: l => a.shape && shapeTms l
end
theorem shapeTms_iff : ∀ {l : List Trm}, shapeTms l = true ↔ ∀ a ∈ l, a.shape = true
  | [] => by simp [shapeTms]
  | a :: l => by simp [shapeTms, shapeTms_iff (l := l)]
theorem Trm.shape_iff {k i : Int} {t : Typ} {l : List Trm} : (Trm.mk k i t l).shape = true ↔ arity k = some l.length ∧ 0 ≤ i ∧ (i = 0 ∨ k = 1) ∧ (if typed k then t.okB else t.none) = true ∧ ∀ a ∈ l, a.shape = true := by
  simp only [Trm.shape, Bool.and_eq_true, beq_iff_eq, decide_eq_true_eq, Bool.or_eq_true, shapeTms_iff, and_assoc]
mutual
def Trm.same : Trm → Trm → Bool
  | .mk k i t l, .mk k' i' t' l' => k == k' && i == i' && t.same t' && sameTms l l'
def sameTms : List Trm → List Trm → Bool
  | [], [] => true
  | a :: l, b :: r => a.same b && sameTms l r
  | _, _ => false
end
theorem sameTms_iff : ∀ {l r : List Trm}, sameTms l r = true ↔ l.length = r.length ∧ ∀ (i : Nat) a b, l[i]? = some a → r[i]? = some b → a.same b = true
  | [], [] => by simp [sameTms]
  | [], b :: r => by simp [sameTms]
  | a :: l, [] => by simp [sameTms]
  | a :: l, b :: r => by
    simp only [sameTms, Bool.and_eq_true, sameTms_iff (l := l) (r := r), List.length_cons]
    constructor
    · rintro ⟨h1, h2, h3⟩
      refine ⟨by omega, fun i x y hx hy => ?_⟩
      cases i with
      | zero => simp at hx hy; subst hx; subst hy; exact h1
      | succ i => simp at hx hy; exact h3 i x y hx hy
    · rintro ⟨h1, h2⟩
      exact ⟨h2 0 a b rfl rfl, by omega, fun i x y hx hy => h2 (i + 1) x y (by simpa using hx) (by simpa using hy)⟩
theorem sameTm_eq (t : Trm) : ∀ u, t.same u = true ↔ t = u := by
  induction t using Trm.ind with
  | _ k i t l ih =>
    rintro ⟨k', i', t', l'⟩
    simp only [Trm.same, Bool.and_eq_true, beq_iff_eq, sameTms_iff, Trm.mk.injEq, same_eq, and_assoc]
    refine and_congr_right fun _ => and_congr_right fun _ => and_congr_right fun _ => ⟨fun ⟨h1, h2⟩ => List.ext_getElem? fun i => ?_, fun h => by subst h; exact ⟨rfl, fun i a b ha hb => by rw [ha] at hb; injection hb with hb; exact (ih a (List.mem_of_getElem? ha) b).2 hb⟩⟩
    by_cases hi : i < l.length
    · have e1 := List.getElem?_eq_getElem hi
      have e2 := List.getElem?_eq_getElem (l := l') (i := i) (by omega)
      rw [e1, e2, (ih _ (List.getElem_mem hi) _).1 (h2 i _ _ e1 e2)]
    · rw [List.getElem?_eq_none (by omega), List.getElem?_eq_none (by omega)]

/-- The error of a term. -/
def Trm.err (t : Trm) : Int := if t.shape then (if 4096 < t.sz then 4 else 0) else 2

def w64 (x : Int) : Int := IntKind.i64.wrap x
theorem w64_id {x : Int} (h1 : -9223372036854775808 ≤ x) (h2 : x < 9223372036854775808) : w64 x = x := i64_id h1 h2
/- Each variable, and what is between. -/
mutual
def Trm.each {S : Type} (f : S → Int → Int → S) : Trm → Int → S → S
  | .mk k i _ l, b, s => eachs f l (if k == 2 then w64 (b + 1) else b) (if k == 1 then f s i b else s)
def eachs {S : Type} (f : S → Int → Int → S) : List Trm → Int → S → S
  | [], _, s => s
  | a :: l, b, s => eachs f l b (a.each f b s)
end
theorem eachs_app {S : Type} (f : S → Int → Int → S) (b : Int) : ∀ (l r : List Trm) (s : S), eachs f (l ++ r) b s = eachs f r b (eachs f l b s)
  | [], r, s => rfl
  | a :: l, r, s => by simp only [List.cons_append, eachs, eachs_app f b l r]
theorem eachs_take {S : Type} (f : S → Int → Int → S) (b : Int) {l : List Trm} {i : Nat} {a : Trm} (h : l[i]? = some a) (s : S) : eachs f (l.take (i + 1)) b s = a.each f b (eachs f (l.take i) b s) := by
  rw [take_succ_of h, eachs_app]; rfl
mutual
def Trm.rebuild (f : Int → Int → Trm) : Trm → Int → Trm
  | .mk k i t l, b => if k == 1 then f i b else .mk k i t (rebuilds f l (if k == 2 then w64 (b + 1) else b))
def rebuilds (f : Int → Int → Trm) : List Trm → Int → List Trm
  | [], _ => []
  | a :: l, b => a.rebuild f b :: rebuilds f l b
end
theorem rebuilds_map (f : Int → Int → Trm) (b : Int) : ∀ l, rebuilds f l b = l.map (·.rebuild f b)
  | [] => rfl
  | a :: l => by simp only [rebuilds, List.map_cons, rebuilds_map f b l]
theorem rebuilds_take (f : Int → Int → Trm) (b : Int) {l : List Trm} {i : Nat} {a : Trm} (h : l[i]? = some a) : dTms (rebuilds f (l.take (i + 1)) b) = dTms (rebuilds f (l.take i) b) ++ [dTm (a.rebuild f b)] := by
  rw [take_succ_of h, rebuilds_map, rebuilds_map, List.map_append, dTms_push]; rfl
def Trm.var (i : Int) : Trm := .mk 1 i (.mk 0 []) []
def liftAt (at_ by_ : Int) (i b : Int) : Trm := .var (if decide (w64 (i - b) ≥ at_) then w64 (i + by_) else i)
def Trm.lift (t : Trm) (at_ by_ : Int) : Trm := t.rebuild (liftAt at_ by_) 0
def putAt (at_ : Int) (s : Trm) (i b : Int) : Trm := if w64 (i - b) == at_ then s.lift 0 (w64 (at_ + b)) else if decide (w64 (i - b) > at_) then .var (w64 (i - 1)) else .var i
def Trm.put (t : Trm) (at_ : Int) (s : Trm) : Trm := t.rebuild (putAt at_ s) 0
def Trm.near (t : Trm) : Bool := t.each (fun s i _ => s && decide (i ≤ 536870912)) 0 true
def Trm.count (t : Trm) (at_ : Int) : Int := t.each (fun s i b => if w64 (i - b) == at_ then w64 (s + 1) else s) 0 0

def Trm.zero : Trm := .mk 0 0 (.mk 0 []) []
def within (n : Int) : Bool := decide (n ≥ 0) && decide (n ≤ 4096)
def liftE (t : Trm) (a y : Int) : Int := if t.err != 0 then t.err else if within a && within y && t.near then 0 else 1
def lowerE (t : Trm) (a : Int) : Int := if t.err != 0 then t.err else if within a then (if decide (t.count a > 0) then 6 else 0) else 1
def putE (t : Trm) (a : Int) (s : Trm) : Int := if t.err != 0 then t.err else if within a then (if s.err != 0 then s.err else if t.near && s.near then
  (if decide (w64 ((t.sz : Int) + w64 (t.count a * w64 ((s.sz : Int) - 1))) > 4096) then 4 else 0) else 1) else 1

/-- Lists of numbers. -/
def dInts (l : List Int) : List (List D) := l.map fun i => [.int .i64 i]
theorem dInts_len (l : List Int) : (dInts l).length = l.length := by simp [dInts]
theorem dInts_sz (l : List Int) : ∀ e ∈ dInts l, e.length = 1 := fun e he => by
  obtain ⟨t, _, rfl⟩ := List.mem_map.1 he
  rfl
theorem dInts_push (l : List Int) (a : Int) : dInts l ++ [[.int .i64 a]] = dInts (l ++ [a]) := by simp [dInts]
theorem dInts_get {l : List Int} {i : Nat} {a : Int} (h : l[i]? = some a) : (dInts l)[i]? = some [.int .i64 a] := by simp [dInts, h]
theorem sz_app {n : Nat} {l r : List (List D)} (h1 : ∀ e ∈ l, e.length = n) (h2 : ∀ e ∈ r, e.length = n) : ∀ e ∈ l ++ r, e.length = n := fun e he => by
  rcases List.mem_append.1 he with h | h
  · exact h1 e h
  · exact h2 e h
theorem sz_one {n : Nat} {x : List D} (h : x.length = n) : ∀ e ∈ [x], e.length = n := fun e he => by
  simp at he; subst he; exact h
theorem sz_nil {n : Nat} : ∀ e ∈ ([] : List (List D)), e.length = n := fun e he => by cases he
end Go.AM
set_option linter.unusedVariables false
set_option linter.unusedSimpArgs false
namespace Go.AM
open Go Go.RowKit

theorem getD_at {α : Type} (l : List α) (d : α) {i : Nat} (h : i < l.length) : l.getD i d = l[i] := by
  rw [List.getD_eq_getElem?_getD, List.getElem?_eq_getElem h]; rfl
def Typ.zero : Typ := .mk 0 []
def Typ.nat : Typ := .mk 1 []
def Typ.list : Typ := .mk 2 []
def Typ.unit : Typ := .mk 5 []
def Typ.two (a b : Typ) : Typ := .mk 3 [a, b]
def Typ.func (a b : Typ) : Typ := .mk 4 [a, b]
def okT (t : Typ) : Int × Typ := if t.err != 0 then (4, .zero) else (0, t)
def node (k : Int) (ty : Typ) (us : List Typ) : Int × Typ :=
  if k == 2 then okT (.func ty (us.getD 0 .zero))
  else if k == 3 then (if (us.getD 0 .zero).kind != 4 || !((us.getD 0 .zero).args.getD 0 .zero).same (us.getD 1 .zero) then (7, .zero) else (0, (us.getD 0 .zero).args.getD 1 .zero))
  else if k == 4 then (0, .nat)
  else if k == 5 then (if !(us.getD 0 .zero).same .nat then (7, .zero) else (0, .nat))
  else if k == 6 then (if !(us.getD 0 .zero).same ty || !(us.getD 1 .zero).same (.func .nat (.func ty ty)) || !(us.getD 2 .zero).same .nat then (7, .zero) else (0, ty))
  else if k == 7 then (0, .list)
  else if k == 8 then (if !(us.getD 0 .zero).same .nat || !(us.getD 1 .zero).same .list then (7, .zero) else (0, .list))
  else if k == 9 then (if !(us.getD 0 .zero).same ty || !(us.getD 1 .zero).same (.func .nat (.func .list (.func ty ty))) || !(us.getD 2 .zero).same .list then (7, .zero) else (0, ty))
  else if k == 10 then okT (.two (us.getD 0 .zero) (us.getD 1 .zero))
  else if k == 11 then (if (us.getD 0 .zero).kind != 3 then (7, .zero) else (0, (us.getD 0 .zero).args.getD 0 .zero))
  else if k == 12 then (if (us.getD 0 .zero).kind != 3 then (7, .zero) else (0, (us.getD 0 .zero).args.getD 1 .zero))
  else (0, .unit)
mutual
def Trm.infer : Trm → List Typ → Int × Typ
  | .mk k i ty l, g =>
    if k == 1 then (if decide (i ≥ g.length) then (6, .zero) else (0, g.getD (g.length - 1 - i.toNat) .zero))
    else match infers l (if k == 2 then g ++ [ty] else g) with
      | (e, us) => if e != 0 then (e, .zero) else node k ty us
def infers : List Trm → List Typ → Int × List Typ
  | [], _ => (0, [])
  | a :: l, g => match a.infer g with
    | (e, u) => if e != 0 then (e, []) else match infers l g with
      | (e', us) => if e' != 0 then (e', []) else (0, u :: us)
end
theorem infers_ok {g : List Typ} : ∀ {l : List Trm}, (∀ a ∈ l, (a.infer g).1 = 0) → infers l g = (0, l.map fun a => (a.infer g).2)
  | [], _ => rfl
  | a :: l, h => by
    have h1 := h a (List.mem_cons_self ..)
    have h2 := infers_ok (l := l) (fun b hb => h b (List.mem_cons_of_mem _ hb))
    simp [infers, h1, h2]
/-- The first error. -/
theorem infers_bad {g : List Typ} : ∀ {l : List Trm} {i : Nat} {a : Trm}, l[i]? = some a → (∀ (j : Nat) b, j < i → l[j]? = some b → (b.infer g).1 = 0) → (a.infer g).1 ≠ 0 → infers l g = ((a.infer g).1, [])
  | [], i, a, h, _, _ => by simp at h
  | b :: l, 0, a, h, _, hn => by
    simp at h; subst h
    simp [infers, hn]
  | b :: l, i + 1, a, h, hp, hn => by
    have h1 := hp 0 b (by omega) rfl
    have h2 := infers_bad (l := l) (i := i) (a := a) (by simpa using h) (fun j c hj hc => hp (j + 1) c (by omega) (by simpa using hc)) hn
    simp only [infers]
    rw [h1, h2]
    simp [hn]
theorem infers_iff {g : List Typ} {l : List Trm} (h : (infers l g).1 = 0) : ∀ a ∈ l, (a.infer g).1 = 0 := by
  induction l with
  | nil => intro a ha; cases ha
  | cons b l ih =>
    simp only [infers] at h
    by_cases e : (b.infer g).1 = 0
    · by_cases e2 : (infers l g).1 = 0
      · intro a ha
        rcases List.mem_cons.1 ha with rfl | ha
        · exact e
        · exact ih e2 a ha
      · simp [e, e2] at h
    · simp [e] at h
theorem dTys_getD {us : List Typ} {i : Nat} (h : i < us.length) : (dTys us)[i]? = some (dTy (us.getD i .zero)) := by
  refine dTys_get ?_
  rw [List.getElem?_eq_getElem h, getD_at _ _ h]
theorem okB_iff {t : Typ} : t.okB = true ↔ t.shape = true ∧ t.sz ≤ 64 := by simp [Typ.okB]
theorem shape_args {t : Typ} (h : t.shape = true) (hk : t.kind = 3 ∨ t.kind = 4) : t.args.length = 2 := by
  obtain ⟨k, l⟩ := t
  simp only [Typ.shape, Bool.and_eq_true, beq_iff_eq] at h
  rcases hk with hk | hk <;> simp only [Typ.kind_mk] at hk <;> subst hk <;> simp [wantTy] at h <;> exact h.1.symm
theorem okB_arg {t : Typ} (h : t.okB = true) {i : Nat} (hi : i < t.args.length) : (t.args.getD i .zero).okB = true := by
  obtain ⟨k, l⟩ := t
  simp only [Typ.args_mk] at hi ⊢
  rw [okB_iff] at h ⊢
  rw [getD_at _ _ hi]
  obtain ⟨h1, h2⟩ := h
  simp only [Typ.shape, Bool.and_eq_true, shapeTys_iff] at h1
  have := szTys_mem (List.getElem_mem hi)
  simp only [Typ.sz] at h2
  exact ⟨h1.2 _ (List.getElem_mem hi), by omega⟩
theorem okT_ok {t : Typ} (h : (okT t).1 = 0) : (okT t).2.okB = true ∧ (okT t).2 = t := by
  unfold okT at h ⊢
  by_cases e : t.err = 0
  · have := Typ.err_ok t
    simp [e] at this ⊢
    exact this
  · simp [e] at h
theorem node_ok {k : Int} {ty : Typ} {us : List Typ} (h : (node k ty us).1 = 0) (hus : ∀ i, i < us.length → (us.getD i .zero).okB = true) (hty : typed k = true → ty.okB = true) (ha : arity k = some us.length) (h1 : k ≠ 1) : (node k ty us).2.okB = true := by
  have hn : Typ.nat.okB = true := by decide
  have hl : Typ.list.okB = true := by decide
  have hu : Typ.unit.okB = true := by decide
  have ar : ∀ {j n : Nat}, us.length = n → j < n → (us.getD j .zero).okB = true := fun h1 h2 => hus _ (by omega)
  unfold node at h ⊢
  by_cases c2 : k = 2
  · subst c2; simp at h ⊢; exact (okT_ok h).1
  by_cases c3 : k = 3
  · subst c3
    have hlen : us.length = 2 := by simpa [arity] using ha.symm
    simp only [show ((3 : Int) == 2) = false by decide, show ((3 : Int) == 3) = true by decide, if_true, Bool.false_eq_true, if_false] at h ⊢
    split at h
    · cases h
    · rename_i hc
      rw [if_neg hc]
      have h4 : (us.getD 0 .zero).kind = 4 := by simp at hc; exact hc.1
      have h0 := ar hlen (show 0 < 2 by omega)
      exact okB_arg h0 (by rw [shape_args (okB_iff.1 h0).1 (.inr h4)]; omega)
  by_cases c4 : k = 4
  · subst c4; exact hn
  by_cases c5 : k = 5
  · subst c5
    simp at h ⊢
    split at h
    · cases h
    · rename_i hc; rw [if_neg hc]; exact hn
  by_cases c6 : k = 6
  · subst c6
    simp at h ⊢
    split at h
    · cases h
    · rename_i hc; rw [if_neg hc]; exact hty rfl
  by_cases c7 : k = 7
  · subst c7; exact hl
  by_cases c8 : k = 8
  · subst c8
    simp at h ⊢
    split at h
    · cases h
    · rename_i hc; rw [if_neg hc]; exact hl
  by_cases c9 : k = 9
  · subst c9
    simp at h ⊢
    split at h
    · cases h
    · rename_i hc; rw [if_neg hc]; exact hty rfl
  by_cases c10 : k = 10
  · subst c10; simp at h ⊢; exact (okT_ok h).1
  by_cases c11 : k = 11
  · subst c11
    have hlen : us.length = 1 := by simpa [arity] using ha.symm
    have h0 := ar hlen (show 0 < 1 by omega)
    simp only [show ((11 : Int) == 2) = false by decide, show ((11 : Int) == 3) = false by decide, show ((11 : Int) == 4) = false by decide, show ((11 : Int) == 5) = false by decide, show ((11 : Int) == 6) = false by decide, show ((11 : Int) == 7) = false by decide, show ((11 : Int) == 8) = false by decide, show ((11 : Int) == 9) = false by decide, show ((11 : Int) == 10) = false by decide, show ((11 : Int) == 11) = true by decide, if_true, Bool.false_eq_true, if_false] at h ⊢
    split at h
    · cases h
    · rename_i hc; rw [if_neg hc]
      exact okB_arg h0 (by rw [shape_args (okB_iff.1 h0).1 (.inl (by simpa using hc))]; omega)
  by_cases c12 : k = 12
  · subst c12
    have hlen : us.length = 1 := by simpa [arity] using ha.symm
    have h0 := ar hlen (show 0 < 1 by omega)
    simp only [show ((12 : Int) == 2) = false by decide, show ((12 : Int) == 3) = false by decide, show ((12 : Int) == 4) = false by decide, show ((12 : Int) == 5) = false by decide, show ((12 : Int) == 6) = false by decide, show ((12 : Int) == 7) = false by decide, show ((12 : Int) == 8) = false by decide, show ((12 : Int) == 9) = false by decide, show ((12 : Int) == 10) = false by decide, show ((12 : Int) == 11) = false by decide, show ((12 : Int) == 12) = true by decide, if_true, Bool.false_eq_true, if_false] at h ⊢
    split at h
    · cases h
    · rename_i hc; rw [if_neg hc]
      exact okB_arg h0 (by rw [shape_args (okB_iff.1 h0).1 (.inl (by simpa using hc))]; omega)
  · have e : ∀ n : Int, k ≠ n → (k == n) = false := fun n hn => by simpa using hn
    simp only [e 2 c2, e 3 c3, e 4 c4, e 5 c5, e 6 c6, e 7 c7, e 8 c8, e 9 c9, e 10 c10, e 11 c11, e 12 c12, Bool.false_eq_true, if_false]
    exact hu
theorem infer_ok (t : Trm) : ∀ (g : List Typ), t.shape = true → (∀ a ∈ g, a.okB = true) → (t.infer g).1 = 0 → (t.infer g).2.okB = true := by
  induction t using Trm.ind with
  | _ k i ty l ih =>
    intro g hs hg h
    rw [Trm.shape_iff] at hs
    obtain ⟨h1, h2, h3, h4, h5⟩ := hs
    simp only [Trm.infer] at h ⊢
    by_cases c : k = 1
    · subst c
      simp only [beq_self_eq_true, if_true] at h ⊢
      split at h
      · cases h
      · rename_i hc
        rw [if_neg hc]
        have hlt : g.length - 1 - i.toNat < g.length := by simp at hc; omega
        simp only
        rw [getD_at _ _ hlt]
        exact hg _ (List.getElem_mem hlt)
    · have e1 : (k == 1) = false := by simpa using c
      simp only [e1, Bool.false_eq_true, if_false] at h ⊢
      by_cases e : (infers l (if (k == 2) = true then g ++ [ty] else g)).1 = 0
      · have hall := infers_iff e
        rw [infers_ok hall] at h ⊢
        simp only [bne_self_eq_false, Bool.false_eq_true, if_false] at h ⊢
        have hg2 : ∀ a ∈ (if (k == 2) = true then g ++ [ty] else g), a.okB = true := by
          intro a ha
          split at ha
          · rename_i hk2
            have hk2' : k = 2 := by simpa using hk2
            subst hk2'
            rcases List.mem_append.1 ha with ha | ha
            · exact hg a ha
            · simp at ha; subst ha; simpa [typed] using h4
          · exact hg a ha
        refine node_ok h (fun j hj => ?_) (fun ht => by rw [ht, if_pos rfl] at h4; exact h4) (by simpa using h1) c
        rw [List.length_map] at hj
        rw [getD_at _ _ (by simpa using hj), List.getElem_map]
        exact ih _ (List.getElem_mem hj) _ (h5 _ (List.getElem_mem hj)) hg2 (hall _ (List.getElem_mem hj))
      · have : ((infers l (if (k == 2) = true then g ++ [ty] else g)).1 != 0) = true := by simpa using e
        simp only [this, if_true] at h
        exact absurd h e
theorem getD_mem_ok {us : List Typ} (h : ∀ a ∈ us, a.okB = true) {i : Nat} (hi : i < us.length) : (us.getD i .zero).okB = true := by
  rw [getD_at _ _ hi]; exact h _ (List.getElem_mem hi)
theorem infer_node {k i : Int} {ty : Typ} {l : List Trm} {g : List Typ} (h1 : (k == 1) = false) (h2 : (k == 2) = false) (h : ∀ a ∈ l, (a.infer g).1 = 0) : (Trm.mk k i ty l).infer g = node k ty (l.map fun a => (a.infer g).2) := by
  simp only [Trm.infer, h1, h2, Bool.false_eq_true, if_false, infers_ok h]
  rfl
theorem infer_first {k i : Int} {ty : Typ} {l : List Trm} {g : List Typ} (h1 : (k == 1) = false) (h2 : (k == 2) = false) {j : Nat} {a : Trm} (hj : l[j]? = some a) (hp : ∀ (m : Nat) b, m < j → l[m]? = some b → (b.infer g).1 = 0) (hn : (a.infer g).1 ≠ 0) : (Trm.mk k i ty l).infer g = ((a.infer g).1, .zero) := by
  simp only [Trm.infer, h1, h2, Bool.false_eq_true, if_false, infers_bad hj hp hn]
  simp [hn]
/-- The error of a context. -/
def ctxE : List Typ → Int
  | [] => 0
  | a :: l => if a.err != 0 then a.err else ctxE l
theorem ctxE_bad : ∀ {l : List Typ} {i : Nat} {a : Typ}, l[i]? = some a → (∀ (j : Nat) b, j < i → l[j]? = some b → b.err = 0) → a.err ≠ 0 → ctxE l = a.err
  | [], i, a, h, _, _ => by simp at h
  | b :: l, 0, a, h, _, hn => by simp at h; subst h; simp [ctxE, hn]
  | b :: l, i + 1, a, h, hp, hn => by
    have h1 := hp 0 b (by omega) rfl
    have h2 := ctxE_bad (l := l) (i := i) (a := a) (by simpa using h) (fun j c hj hc => hp (j + 1) c (by omega) (by simpa using hc)) hn
    simp [ctxE, h1, h2]
theorem ctxE_ok {l : List Typ} (h : ∀ a ∈ l, a.err = 0) : ctxE l = 0 := by
  induction l with
  | nil => rfl
  | cons b l ih => simp [ctxE, h b (List.mem_cons_self ..), ih (fun a ha => h a (List.mem_cons_of_mem _ ha))]
theorem ctxE_iff {l : List Typ} : ctxE l = 0 ↔ ∀ a ∈ l, a.okB = true := by
  induction l with
  | nil => simp [ctxE]
  | cons b l ih =>
    have hb := Typ.err_ok b
    by_cases e : b.err = 0
    · have h1 : b.okB = true := by rw [← hb, e]; rfl
      simp [ctxE, e, ih, h1]
    · have h1 : b.okB = false := by rw [← hb]; simpa using e
      simp [ctxE, e, h1]
def ctxErr (l : List Typ) : Int := if decide ((l.length : Int) > 16) then 3 else ctxE l
def typedE (g : List Typ) (t : Trm) : Int × Typ := if t.err != 0 then (t.err, .zero) else t.infer g
def typeOf (g : List Typ) (t : Trm) : Int × Typ := if ctxErr g != 0 then (ctxErr g, .zero) else typedE g t
end Go.AM

/-
  The words of printed functions, reckoned out: loops that push, loops that fold, recursions.
-/
import Derived.Test.YtgilcibfknafiaaGreatDoorAnD
import Derived.Test.YtgilcibfknafiaaGreatDoorAmM
set_option linter.unusedVariables false
set_option linter.unusedSimpArgs false
namespace Go.AM
open Go
section
variable {α β X R : Type}
theorem bnd_eq {x : Option α} {a : α} {k : α → Option R} (h : x = some a) : bnd x k = k a := by subst h; rfl
theorem bnd_id {x : Option α} : (bnd x fun r => some r) = x := by cases x <;> rfl
theorem loopL_nil {fin : X → Option R} {step} {i : Nat} {x : X} : loopL (α := α) fin step i [] x = fin x := rfl
theorem loopL_cons {fin : X → Option R} {step} {i : Nat} {a : α} {l : List α} {x : X} : loopL fin step i (a :: l) x = step (loopL fin step (i + 1) l) i a x := rfl
/-- A loop's value, by what it is at each place. -/
theorem loopL_eq {fin : X → Option R} {step : (X → Option R) → Nat → α → X → Option R} (F : Nat → List α → X → Option R) (h0 : ∀ i x, fin x = F i [] x) : ∀ {l : List α} {i : Nat} {x : X},
    (∀ k a as x i, a ∈ l → (∀ x', k x' = F (i + 1) as x') → step k i a x = F i (a :: as) x) → loopL fin step i l x = F i l x
  | [], i, x, _ => h0 i x
  | a :: as, i, x, hs => by
    rw [loopL_cons]
    exact hs _ a as x i List.mem_cons_self fun x' => loopL_eq F h0 fun k b bs x i hb => hs k b bs x i (List.mem_cons_of_mem _ hb)
/-- A loop that appends what is reckoned of each part. -/
theorem loopL_push {fin : List β → Option R} {self : α → Option β} {f : α → β} : ∀ {l : List α} {i : Nat} {x : List β}, (∀ a ∈ l, self a = some (f a)) → x.length + l.length ≤ 2000000000 →
    loopL fin (fun k _ a x => bnd (self a) fun r => gd (x.length + 1) (k (x ++ [r]))) i l x = fin (x ++ l.map f)
  | [], i, x, _, _ => by rw [loopL_nil, List.map_nil, List.append_nil]
  | a :: l, i, x, h, hl => by
    simp only [List.length_cons] at hl
    rw [loopL_cons, bnd_eq (h a List.mem_cons_self), gd_ok (by omega), loopL_push (fun b hb => h b (List.mem_cons_of_mem _ hb)) (by simp; omega)]
    simp
/-- A loop that hands a value on. -/
theorem loopL_fold {fin : X → Option R} {self : α → X → Option X} {g : X → α → X} : ∀ {l : List α} {i : Nat} {x : X}, (∀ a ∈ l, ∀ x, self a x = some (g x a)) →
    loopL fin (fun k _ a x => bnd (self a x) fun r => k r) i l x = fin (l.foldl g x)
  | [], i, x, _ => rfl
  | a :: l, i, x, h => by
    rw [loopL_cons, bnd_eq (h a List.mem_cons_self _), loopL_fold fun b hb => h b (List.mem_cons_of_mem _ hb)]
    rfl
/-- As before, where something holds all along. -/
theorem loopL_foldP {fin : X → Option R} {self : α → X → Option X} {g : X → α → X} (p : List α → X → Prop) : ∀ {l : List α} {i : Nat} {x : X}, (∀ a as x, p (a :: as) x → self a x = some (g x a) ∧ p as (g x a)) → p l x →
    loopL fin (fun k _ a x => bnd (self a x) fun r => k r) i l x = fin (l.foldl g x)
  | [], i, x, _, _ => rfl
  | a :: l, i, x, h, hp => by
    rw [loopL_cons, bnd_eq (h a l x hp).1, loopL_foldP p h (h a l x hp).2]
    rfl
/-- A loop that adds up what is reckoned of each part, and stops at a part that is not right. -/
theorem loopL_sum {fin : Int → Option R} {bad : Option R} {self : α → Option (Int × Bool)} {sz : α → Nat} {ok : α → Bool} : ∀ {l : List α} {i : Nat} {x : Nat}, (∀ a ∈ l, self a = some (if ok a then ((sz a : Nat) : Int) else 0, ok a)) → x + (l.map sz).sum ≤ 1000000 →
    loopL fin (fun k _ a x => bnd (self a) fun r => cond (!r.2) bad (k (w64 (x + r.1)))) i l (x : Int) = if l.all ok then fin ((x + (l.map sz).sum : Nat) : Int) else bad
  | [], i, x, _, _ => rfl
  | a :: l, i, x, h, hx => by
    simp only [List.map_cons, List.sum_cons] at hx
    rw [loopL_cons, bnd_eq (h a List.mem_cons_self)]
    cases ho : ok a with
    | false => simp [ho]
    | true =>
      simp only [if_true, Bool.not_true, cond_false]
      rw [w64_id (by omega) (by omega), ← Int.natCast_add, loopL_sum (fun b hb => h b (List.mem_cons_of_mem _ hb)) (by omega)]
      simp only [List.all_cons, ho, Bool.true_and, List.map_cons, List.sum_cons, Nat.add_assoc]
theorem fixO_succ {body : (α → Option R) → α → Option R} {m : Nat} {a : α} : fixO body (m + 1) a = body (fixO body m) a := rfl
end
end Go.AM

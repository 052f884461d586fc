/-
  How plain data lies in cells: the words and their laws.
-/
import Derived.Test.YtgilcibfknafiaaGreatDoorAnD
import Derived.Test.YtgilcibfknafiaaGreatDoorAmM
set_option linter.unusedVariables false
set_option linter.unusedSimpArgs false
namespace Go.AM
open Go Go.RowKit
abbrev emptyS : ByteArray := ⟨#[]⟩
theorem mp_get {α : Type} {f : α → List D} {l : List α} {i : Nat} {a : α} (h : l[i]? = some a) : (l.map f)[i]? = some (f a) := by rw [List.getElem?_map, h]; rfl
theorem mp_cut {α β : Type} (f : α → β) (l : List α) (m k : Nat) : ((l.map f).take m).drop k = ((l.take m).drop k).map f := by rw [← List.map_take, ← List.map_drop]
theorem mp_sz {α : Type} {f : α → List D} {n : Nat} (h : ∀ a, (f a).length = n) {l : List α} : ∀ e ∈ l.map f, e.length = n := fun e he => by
  obtain ⟨a, _, rfl⟩ := List.mem_map.1 he
  exact h a
theorem dTys_cut (l : List Typ) (m k : Nat) : ((dTys l).take m).drop k = dTys ((l.take m).drop k) := by rw [dTys_map, dTys_map]; exact mp_cut ..
theorem dTms_cut (l : List Trm) (m k : Nat) : ((dTms l).take m).drop k = dTms ((l.take m).drop k) := by rw [dTms_map, dTms_map]; exact mp_cut ..
def cInt (i : Int) : List D := [.int .i64 i]
theorem dInts_map (l : List Int) : dInts l = l.map cInt := rfl
theorem dInts_app (l r : List Int) : dInts l ++ dInts r = dInts (l ++ r) := List.map_append.symm
theorem dInts_cut (l : List Int) (m k : Nat) : ((dInts l).take m).drop k = dInts ((l.take m).drop k) := mp_cut ..
def cBool (b : Bool) : List D := [.bool b]
def dBools (l : List Bool) : List (List D) := l.map cBool
theorem dBools_get {l : List Bool} {i : Nat} {a : Bool} (h : l[i]? = some a) : (dBools l)[i]? = some (cBool a) := mp_get h
theorem dBools_len (l : List Bool) : (dBools l).length = l.length := List.length_map ..
theorem dBools_sz (l : List Bool) : ∀ e ∈ dBools l, e.length = 1 := mp_sz (f := cBool) (n := 1) fun _ => rfl
theorem dBools_app (l r : List Bool) : dBools l ++ dBools r = dBools (l ++ r) := List.map_append.symm
theorem dBools_map (l : List Bool) : dBools l = l.map cBool := rfl
theorem dBools_cut (l : List Bool) (m k : Nat) : ((dBools l).take m).drop k = dBools ((l.take m).drop k) := mp_cut ..
def cStr (s : ByteArray) : List D := [.str s]
def dStrs (l : List ByteArray) : List (List D) := l.map cStr
theorem dStrs_get {l : List ByteArray} {i : Nat} {a : ByteArray} (h : l[i]? = some a) : (dStrs l)[i]? = some (cStr a) := mp_get h
theorem dStrs_len (l : List ByteArray) : (dStrs l).length = l.length := List.length_map ..
theorem dStrs_sz (l : List ByteArray) : ∀ e ∈ dStrs l, e.length = 1 := mp_sz (f := cStr) (n := 1) fun _ => rfl
theorem dStrs_app (l r : List ByteArray) : dStrs l ++ dStrs r = dStrs (l ++ r) := List.map_append.symm
theorem dStrs_map (l : List ByteArray) : dStrs l = l.map cStr := rfl
theorem dStrs_cut (l : List ByteArray) (m k : Nat) : ((dStrs l).take m).drop k = dStrs ((l.take m).drop k) := mp_cut ..
/-- Lists of lists. -/
def cL {α : Type} (f : List α → List (List D)) (x : List α) : List D := [.slice (f x)]
def dLs {α : Type} (f : List α → List (List D)) (l : List (List α)) : List (List D) := l.map (cL f)
section
variable {α : Type} {f : List α → List (List D)}
theorem dLs_get {l : List (List α)} {i : Nat} {a : List α} (h : l[i]? = some a) : (dLs f l)[i]? = some (cL f a) := mp_get h
theorem dLs_len (l : List (List α)) : (dLs f l).length = l.length := List.length_map ..
theorem dLs_sz (l : List (List α)) : ∀ e ∈ dLs f l, e.length = 1 := mp_sz (f := cL f) (n := 1) fun _ => rfl
theorem dLs_app (l r : List (List α)) : dLs f l ++ dLs f r = dLs f (l ++ r) := List.map_append.symm
theorem dLs_map (l : List (List α)) : dLs f l = l.map (cL f) := rfl
theorem dLs_cut (l : List (List α)) (m k : Nat) : ((dLs f l).take m).drop k = dLs f ((l.take m).drop k) := mp_cut ..
end
/-- Numbers of other kinds. -/
def cIk (k : IntKind) (i : Int) : List D := [.int k i]
def dIks (k : IntKind) (l : List Int) : List (List D) := l.map (cIk k)
section
variable {k : IntKind}
theorem dIks_get {l : List Int} {i : Nat} {a : Int} (h : l[i]? = some a) : (dIks k l)[i]? = some (cIk k a) := mp_get h
theorem dIks_len (l : List Int) : (dIks k l).length = l.length := List.length_map ..
theorem dIks_sz (l : List Int) : ∀ e ∈ dIks k l, e.length = 1 := mp_sz (f := cIk k) (n := 1) fun _ => rfl
theorem dIks_app (l r : List Int) : dIks k l ++ dIks k r = dIks k (l ++ r) := List.map_append.symm
theorem dIks_map (l : List Int) : dIks k l = l.map (cIk k) := rfl
theorem dIks_cut (l : List Int) (m j : Nat) : ((dIks k l).take m).drop j = dIks k ((l.take m).drop j) := mp_cut ..
end
def arInts : List Int := [0, 0, 1, 2, 0, 1, 3, 0, 2, 3, 2, 1, 1, 0]
/-- A package-level array of numbers. -/
theorem arI_get {l : List Int} {i : Int} {a : Int} (h0 : 0 ≤ i) (h : l[i.toNat]? = some a) : i < l.length ∧ (((l.map fun j => D.int .i64 j).drop (i.toNat * 1)).take 1) = [.int .i64 a] := by
  obtain ⟨hlt, rfl⟩ := List.getElem?_eq_some_iff.1 h
  refine ⟨by omega, ?_⟩
  rw [Nat.mul_one, ← List.map_drop, ← List.map_take, List.drop_eq_getElem_cons hlt]
  rfl

/-! ### Rows of the call's own, from slices without room -/
section
variable {P : Program} {C : Ctx} {ρ : List (Nat × V)} {σ : List (Nat × Option O)} {ls : List Nat} {Q : Exit → A → Prop} {c : Code}
theorem wrN (L t sz e : Nat) (hL : memB L ls = false) (ht : lk ρ t = some (.d .nils)) (h : W P C c ⟨(t, .own [] L) :: ρ, (L, some (.row 0 sz e)) :: σ, L :: ls⟩ Q) : W P C c ⟨ρ, σ, ls⟩ Q := by
  exact ⟨ac_weak (weak_rowt (es := []) (sz := sz) (e := e) hL ((lk_eq _ _).symm.trans ht) .nilfull) h.ac⟩
theorem wrF {es : List (List D)} (L t sz e : Nat) (hL : memB L ls = false) (ht : lk ρ t = some (.full es)) (h : W P C c ⟨(t, .own es L) :: ρ, (L, some (.row es.length sz e)) :: σ, L :: ls⟩ Q) : W P C c ⟨ρ, σ, ls⟩ Q := by
  exact ⟨ac_weak (weak_rowt (sz := sz) (e := e) hL ((lk_eq _ _).symm.trans ht) .rfl) h.ac⟩
theorem wrcN {vs : List V} {t : TypeId} (L l j sz e : Nat) (hL : memB L ls = false) (ho : lo σ l = some (.cells vs t)) (hj : nth vs j = some (.d .nils)) (h : fO (.cells (vs.set j (.own [] L)) t) fun o => W P C c ⟨ρ, (l, some o) :: (L, some (.row 0 sz e)) :: σ, L :: ls⟩ Q) : W P C c ⟨ρ, σ, ls⟩ Q := by
  exact ⟨ac_weak (weak_row (es := []) (sz := sz) (e := e) hL ((lo_eq _ _).symm.trans ho) (by rw [← nth_eq]; exact hj) .nilfull rfl) (fO_iff.1 h).ac⟩
theorem wrcF {vs : List V} {t : TypeId} {es : List (List D)} (L l j sz e : Nat) (hL : memB L ls = false) (ho : lo σ l = some (.cells vs t)) (hj : nth vs j = some (.full es)) (h : fO (.cells (vs.set j (.own es L)) t) fun o => W P C c ⟨ρ, (l, some o) :: (L, some (.row es.length sz e)) :: σ, L :: ls⟩ Q) : W P C c ⟨ρ, σ, ls⟩ Q := by
  exact ⟨ac_weak (weak_row (sz := sz) (e := e) hL ((lo_eq _ _).symm.trans ho) (by rw [← nth_eq]; exact hj) .rfl rfl) (fO_iff.1 h).ac⟩
end
end Go.AM

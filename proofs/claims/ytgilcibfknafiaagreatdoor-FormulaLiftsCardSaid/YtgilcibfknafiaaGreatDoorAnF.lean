/-
  Formulas and proofs, as data.
-/
import Derived.Test.YtgilcibfknafiaaGreatDoorAnE
set_option linter.unusedVariables false
set_option linter.unusedSimpArgs false
namespace Go.AM
open Go
inductive Frm where
  | mk (kind : Int) (ty : Typ) (terms : List Trm) (args : List Frm)
def Frm.kind : Frm → Int | .mk k0 _ _ _ => k0
def Frm.ty : Frm → Typ | .mk _ t1 _ _ => t1
def Frm.terms : Frm → List Trm | .mk _ _ t2 _ => t2
def Frm.args : Frm → List Frm | .mk _ _ _ a3 => a3
@[simp] theorem Frm.kind_mk (k0 : Int) (t1 : Typ) (t2 : List Trm) (a3 : List Frm) : (Frm.mk k0 t1 t2 a3).kind = k0 := rfl
@[simp] theorem Frm.ty_mk (k0 : Int) (t1 : Typ) (t2 : List Trm) (a3 : List Frm) : (Frm.mk k0 t1 t2 a3).ty = t1 := rfl
@[simp] theorem Frm.terms_mk (k0 : Int) (t1 : Typ) (t2 : List Trm) (a3 : List Frm) : (Frm.mk k0 t1 t2 a3).terms = t2 := rfl
@[simp] theorem Frm.args_mk (k0 : Int) (t1 : Typ) (t2 : List Trm) (a3 : List Frm) : (Frm.mk k0 t1 t2 a3).args = a3 := rfl
theorem Frm.ind {p : Frm → Prop} (h : ∀ k0 t1 t2 a3, (∀ a ∈ a3, p a) → p (.mk k0 t1 t2 a3)) (t : Frm) : p t :=
  Frm.rec (motive_1 := p) (motive_2 := fun l => ∀ a ∈ l, p a) (fun k0 t1 t2 a3 ih => h k0 t1 t2 a3 ih) (fun a ha => by cases ha)
    (fun a l ha hl b hb => (List.mem_cons.1 hb).elim (fun e => e ▸ ha) (hl b)) t
mutual
def dFmR : Frm → List D
  | .mk k0 t1 t2 a3 => [.int .i64 k0, .int .i64 t1.kind, .slice (dTys t1.args), .slice (dTms t2), .slice (dFms a3)]
def dFms : List Frm → List (List D)
  | [] => []
  | a :: l => dFmR a :: dFms l
end
def dFm (t : Frm) : List D := [.int .i64 t.kind, .int .i64 t.ty.kind, .slice (dTys t.ty.args), .slice (dTms t.terms), .slice (dFms t.args)]
theorem dFmR_eq (t : Frm) : dFmR t = dFm t := by cases t; rfl
theorem dFms_cons (a : Frm) (l : List Frm) : dFms (a :: l) = dFm a :: dFms l := by rw [← dFmR_eq]; rfl
theorem dFms_map : ∀ l, dFms l = l.map dFm
  | [] => rfl
  | a :: l => by rw [dFms_cons, dFms_map l]; rfl
theorem dFms_len (l : List Frm) : (dFms l).length = l.length := by rw [dFms_map, List.length_map]
theorem dFms_sz (l : List Frm) : ∀ e ∈ dFms l, e.length = 5 := fun e he => by
  rw [dFms_map] at he
  obtain ⟨t, _, rfl⟩ := List.mem_map.1 he
  rfl
theorem dFms_app (l r : List Frm) : dFms l ++ dFms r = dFms (l ++ r) := by rw [dFms_map, dFms_map, dFms_map, List.map_append]
theorem dFms_get {l : List Frm} {i : Nat} {a : Frm} (h : l[i]? = some a) : (dFms l)[i]? = some (dFm a) := by rw [dFms_map, List.getElem?_map, h]; rfl
theorem dFms_cut (l : List Frm) (m k : Nat) : ((dFms l).take m).drop k = dFms ((l.take m).drop k) := by rw [dFms_map, dFms_map]; exact mp_cut ..
inductive Prf where
  | mk (kind : Int) (index : Int) (ty : Typ) (terms : List Trm) (forms : List Frm) (args : List Prf)
def Prf.kind : Prf → Int | .mk k0 _ _ _ _ _ => k0
def Prf.index : Prf → Int | .mk _ i1 _ _ _ _ => i1
def Prf.ty : Prf → Typ | .mk _ _ t2 _ _ _ => t2
def Prf.terms : Prf → List Trm | .mk _ _ _ t3 _ _ => t3
def Prf.forms : Prf → List Frm | .mk _ _ _ _ f4 _ => f4
def Prf.args : Prf → List Prf | .mk _ _ _ _ _ a5 => a5
@[simp] theorem Prf.kind_mk (k0 : Int) (i1 : Int) (t2 : Typ) (t3 : List Trm) (f4 : List Frm) (a5 : List Prf) : (Prf.mk k0 i1 t2 t3 f4 a5).kind = k0 := rfl
@[simp] theorem Prf.index_mk (k0 : Int) (i1 : Int) (t2 : Typ) (t3 : List Trm) (f4 : List Frm) (a5 : List Prf) : (Prf.mk k0 i1 t2 t3 f4 a5).index = i1 := rfl
@[simp] theorem Prf.ty_mk (k0 : Int) (i1 : Int) (t2 : Typ) (t3 : List Trm) (f4 : List Frm) (a5 : List Prf) : (Prf.mk k0 i1 t2 t3 f4 a5).ty = t2 := rfl
@[simp] theorem Prf.terms_mk (k0 : Int) (i1 : Int) (t2 : Typ) (t3 : List Trm) (f4 : List Frm) (a5 : List Prf) : (Prf.mk k0 i1 t2 t3 f4 a5).terms = t3 := rfl
@[simp] theorem Prf.forms_mk (k0 : Int) (i1 : Int) (t2 : Typ) (t3 : List Trm) (f4 : List Frm) (a5 : List Prf) : (Prf.mk k0 i1 t2 t3 f4 a5).forms = f4 := rfl
@[simp] theorem Prf.args_mk (k0 : Int) (i1 : Int) (t2 : Typ) (t3 : List Trm) (f4 : List Frm) (a5 : List Prf) : (Prf.mk k0 i1 t2 t3 f4 a5).args = a5 := rfl
theorem Prf.ind {p : Prf → Prop} (h : ∀ k0 i1 t2 t3 f4 a5, (∀ a ∈ a5, p a) → p (.mk k0 i1 t2 t3 f4 a5)) (t : Prf) : p t :=
  Prf.rec (motive_1 := p) (motive_2 := fun l => ∀ a ∈ l, p a) (fun k0 i1 t2 t3 f4 a5 ih => h k0 i1 t2 t3 f4 a5 ih) (fun a ha => by cases ha)
    (fun a l ha hl b hb => (List.mem_cons.1 hb).elim (fun e => e ▸ ha) (hl b)) t
mutual
def dPfR : Prf → List D
  | .mk k0 i1 t2 t3 f4 a5 => [.int .i64 k0, .int .i64 i1, .int .i64 t2.kind, .slice (dTys t2.args), .slice (dTms t3), .slice (dFms f4), .slice (dPfs a5)]
def dPfs : List Prf → List (List D)
  | [] => []
  | a :: l => dPfR a :: dPfs l
end
def dPf (t : Prf) : List D := [.int .i64 t.kind, .int .i64 t.index, .int .i64 t.ty.kind, .slice (dTys t.ty.args), .slice (dTms t.terms), .slice (dFms t.forms), .slice (dPfs t.args)]
theorem dPfR_eq (t : Prf) : dPfR t = dPf t := by cases t; rfl
theorem dPfs_cons (a : Prf) (l : List Prf) : dPfs (a :: l) = dPf a :: dPfs l := by rw [← dPfR_eq]; rfl
theorem dPfs_map : ∀ l, dPfs l = l.map dPf
  | [] => rfl
  | a :: l => by rw [dPfs_cons, dPfs_map l]; rfl
theorem dPfs_len (l : List Prf) : (dPfs l).length = l.length := by rw [dPfs_map, List.length_map]
theorem dPfs_sz (l : List Prf) : ∀ e ∈ dPfs l, e.length = 7 := fun e he => by
  rw [dPfs_map] at he
  obtain ⟨t, _, rfl⟩ := List.mem_map.1 he
  rfl
theorem dPfs_app (l r : List Prf) : dPfs l ++ dPfs r = dPfs (l ++ r) := by rw [dPfs_map, dPfs_map, dPfs_map, List.map_append]
theorem dPfs_get {l : List Prf} {i : Nat} {a : Prf} (h : l[i]? = some a) : (dPfs l)[i]? = some (dPf a) := by rw [dPfs_map, List.getElem?_map, h]; rfl
theorem dPfs_cut (l : List Prf) (m k : Nat) : ((dPfs l).take m).drop k = dPfs ((l.take m).drop k) := by rw [dPfs_map, dPfs_map]; exact mp_cut ..
end Go.AM

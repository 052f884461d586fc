/-
  Branches on a boolean, joins, loops with a proposition; equalities of what is returned.
-/
import Derived.Test.YtgilcibfknafiaaGreatDoorAmJ
set_option linter.unusedVariables false
set_option linter.unusedSimpArgs false
namespace Go.AM
open Go Go.RowKit
section
variable {P : Program} {C : Ctx} {ops : Array Oper} {rest : List Oper} {ρ : List (Nat × V)} {σ : List (Nat × Option O)} {ls : List Nat} {K : List FP → A → Prop} {Q : Exit → A → Prop} {st : A}

theorem tr_bool {t : Nat} {e : Bool} (h1 : e = true → Tr P C ops rest ⟨(t, .d (.bool true)) :: ρ, σ, ls⟩ K) (h2 : e = false → Tr P C ops rest ⟨(t, .d (.bool false)) :: ρ, σ, ls⟩ K) : Tr P C ops rest ⟨(t, .d (.bool e)) :: ρ, σ, ls⟩ K := by
  cases e with
  | true => exact h1 rfl
  | false => exact h2 rfl
theorem tr_known {t : Nat} {e e' : Bool} (h : e = e') (k : Tr P C ops rest ⟨(t, .d (.bool e')) :: ρ, σ, ls⟩ K) : Tr P C ops rest ⟨(t, .d (.bool e)) :: ρ, σ, ls⟩ K := by
  subst h; exact k
theorem ac_bool {c : Code} {t : Nat} {e : Bool} (h1 : e = true → AC P C c ⟨(t, .d (.bool true)) :: ρ, σ, ls⟩ Q) (h2 : e = false → AC P C c ⟨(t, .d (.bool false)) :: ρ, σ, ls⟩ Q) : AC P C c ⟨(t, .d (.bool e)) :: ρ, σ, ls⟩ Q := by
  cases e with
  | true => exact h1 rfl
  | false => exact h2 rfl
theorem ac_join {α : Type} {x y : Code} (J : α → A) (pr : α → Prop) (hx : AC P C x st (thenQ (fun s => ∃ a, pr a ∧ Weak C s (J a)) Q)) (hy : ∀ a, pr a → AC P C y (J a) Q) : AC P C (.seq x y) st Q := by
  refine ac_seq (ac_mono hx fun e s h => ?_)
  cases e with
  | normal =>
    obtain ⟨a, hp, hw⟩ := h
    exact ac_weak hw (hy a hp)
  | _ => exact h
theorem ac_while {c : Code} {α : Type} (I : α → A) (pr : α → Prop) (μ : α → Nat) (a0 : α) (hp : pr a0) (h0 : Weak C st (I a0))
    (h : ∀ a, pr a → AC P C c (I a) (thenQ (fun s => ∃ y, μ y < μ a ∧ pr y ∧ Weak C s (I y)) Q)) : AC P C (.loop c) st Q := by
  refine ac_loop (fun a : { a : α // pr a } => I a.1) (fun a => μ a.1) ⟨a0, hp⟩ h0 ?_
  rintro ⟨a, ha⟩
  refine ac_mono (h a ha) fun e s hq => ?_
  cases e with
  | normal =>
    obtain ⟨y, h1, h2, h3⟩ := hq
    exact ⟨⟨y, h2⟩, h1, h3⟩
  | _ => exact hq
end
def lookL (σ : List (Nat × Option O)) : List Nat → Option (List O)
  | [] => some []
  | l :: r => match lookO σ l, lookL σ r with
    | some o, some os => some (o :: os)
    | _, _ => none
theorem lookL_at {σ : List (Nat × Option O)} : ∀ {τ : List (Nat × O)}, lookL σ (τ.map (·.1)) = some (τ.map (·.2)) → ∀ l o, (l, o) ∈ τ → lookO σ l = some o
  | [], _, l, o, h => by cases h
  | (k, x) :: r, h, l, o, hm => by
    simp only [List.map_cons] at h
    unfold lookL at h
    split at h
    · rename_i o1 os h1 h2
      injection h with h
      injection h with e1 e2
      subst e1; subst e2
      rcases List.mem_cons.1 hm with e | hm
      · injection e with e1 e2; subst e1; subst e2; exact h1
      · exact lookL_at h2 l o hm
    · cases h
theorem upd_someO (H : Sto) (τ : List (Nat × O)) (l : Nat) : H.upd (someO τ) l = match look τ l with | some o => some o | none => H l := by
  induction τ with
  | nil => rfl
  | cons p r ih =>
    obtain ⟨k, o⟩ := p
    simp only [someO, List.map_cons, Sto.upd, look_cons]
    by_cases e : l = k
    · subst e; simp
    · rw [if_neg e, if_neg (fun x => e x.symm)]; exact ih
def subK (xs ys : List (Nat × O)) : Bool := xs.all fun p => ys.any fun q => Nat.beq p.1 q.1
def freshK (xs ys : List (Nat × O)) (ls : List Nat) : Bool := ys.all fun q => (xs.any fun p => Nat.beq p.1 q.1) || !memB q.1 ls
theorem subK_at {xs ys : List (Nat × O)} (h : subK xs ys = true) {l : Nat} (hl : l ∈ xs.map (·.1)) : l ∈ ys.map (·.1) := by
  obtain ⟨p, hp, rfl⟩ := List.mem_map.1 hl
  obtain ⟨q, hq, e⟩ := List.any_eq_true.1 (List.all_eq_true.1 h p hp)
  exact List.mem_map.2 ⟨q, hq, (Nat.eq_of_beq_eq_true e).symm⟩
/-- A call that is handed objects, which it turns or makes. -/
theorem s_callS {P : Program} {C : Ctx} {ops : Array Oper} {rest : List Oper} {ρ : List (Nat × V)} {σ : List (Nat × Option O)} {ls : List Nat} {K : List FP → A → Prop}
    {dst : Option Nat} {fo : Operand} {as : Array Operand} {ts : Array TypeId} {ty pos af gd} {f : FuncId} {fv : V} {caps vals args : List V} {ret : V} {τ τ' : List (Nat × O)} (hf : opd C.G (look ρ) fo = some fv) (hx : fv = .clo f caps ∨ (fv = .d (.fn f) ∧ caps = []))
    (ha : opdL C.G (look ρ) as.toList = some vals) (hle : VLes vals args) (hev : Ev P C.G f (args ++ caps) τ ret τ') (hσ : lookL σ (τ.map (·.1)) = some (τ.map (·.2))) (hk : subK τ τ' = true) (hfr : freshK τ τ' ls = true)
    (hg : guardIs ops (look ρ) ⟨dst, .call { callee := .value fo, args := as, argTypes := ts }, ty, pos, af, gd⟩ true) (hN : dstOk ⟨dst, .call { callee := .value fo, args := as, argTypes := ts }, ty, pos, af, gd⟩ C.N = true)
    (h : Tr P C ops rest ⟨putL ρ dst ret, someO τ' ++ σ, τ'.map (·.1) ++ ls⟩ (fun fs x' => K (⟨Oper.looksAt ops ⟨dst, .call { callee := .value fo, args := as, argTypes := ts }, ty, pos, af, gd⟩, dst, τ.map (·.1), τ'.map (·.1)⟩ :: fs) x')) : Tr P C ops (⟨dst, .call { callee := .value fo, args := as, argTypes := ts }, ty, pos, af, gd⟩ :: rest) ⟨ρ, σ, ls⟩ K := by
  have hkeys : (someO τ').map (·.1) = τ'.map (·.1) := by simp [someO, Function.comp_def]
  rw [← hkeys] at h
  refine tr_op hg hN (vals := fv :: vals) (show Opds C.G (look ρ) (#[fo] ++ as).toList (fv :: vals) from by rw [Array.toList_append]; exact ⟨_, _, rfl, hf, Opds.ofL ha⟩) (fp := τ) (wr := someO τ') ?_
    (lookL_at hσ) (fun l h1 h2 => ?_) h
  · have hop := AOp.less (aop_call (o := ⟨dst, .call { callee := .value fo, args := as, argTypes := ts }, ty, pos, af, gd⟩) rfl rfl hx hev) (.cons VLe.rfl hle) (VLe.rfl (x := ret))
    have hkw : ∀ l, l ∈ (wrOf τ τ').map (·.1) ↔ l ∈ (someO τ').map (·.1) := fun l => by
      rw [hkeys]
      simp only [wrOf, List.map_map, List.mem_map, Function.comp_def, List.mem_append]
      constructor
      · rintro ⟨p, hp | hp, rfl⟩
        · exact List.mem_map.1 (subK_at hk (List.mem_map.2 ⟨p, hp, rfl⟩))
        · exact ⟨p, hp, rfl⟩
      · rintro ⟨p, hp, rfl⟩
        exact ⟨p, .inr hp, rfl⟩
    intro E M ι H w a next Q hi hG hfp hvs hfr hk'
    refine hop E M ι H w a next Q hi hG hfp hvs (fun l h1 h2 => hfr l ((hkw l).1 h1) h2) (fun M' ι' w' cv k1 k2 k3 k4 => hk' M' ι' w' cv k1 (fun l h1 => k2 l (fun h => h1 ((hkw l).1 h))) ?_ k4)
    have e : H.upd (wrOf τ τ') = H.upd (someO τ') := funext fun l => by
      rw [upd_someO]
      by_cases hl : l ∈ (τ ++ τ').map (·.1)
      · rw [wrOf, upd_map H (look τ') (τ ++ τ') l hl]
        have : l ∈ τ'.map (·.1) := by
          rw [List.map_append, List.mem_append] at hl
          exact hl.elim (subK_at hk) id
        obtain ⟨o, ho⟩ := look_some this
        rw [ho]
      · rw [Sto.upd_not H _ _ (by simpa [wrOf, Function.comp_def] using hl)]
        rw [List.map_append, List.mem_append, not_or] at hl
        rw [look_none hl.2]
    rw [e] at k3; exact k3
  · rw [hkeys] at h1
    obtain ⟨q, hq, rfl⟩ := List.mem_map.1 h1
    have := List.all_eq_true.1 hfr q hq
    rw [Bool.or_eq_true] at this
    rcases this with h3 | h3
    · obtain ⟨p, hp, e⟩ := List.any_eq_true.1 h3
      exact absurd (List.mem_map.2 ⟨p, hp, Nat.eq_of_beq_eq_true e⟩) h2
    · exact not_mem_of (by simpa using h3)
/-- The same for a function that is named. -/
theorem s_callF {P : Program} {C : Ctx} {ops : Array Oper} {rest : List Oper} {ρ : List (Nat × V)} {σ : List (Nat × Option O)} {ls : List Nat} {K : List FP → A → Prop}
    {dst : Option Nat} {f : FuncId} {as : Array Operand} {ts : Array TypeId} {ty pos af gd} {vals args : List V} {ret : V}
    (ha : opdL C.G (look ρ) as.toList = some vals) (hle : VLes vals args) (hev : Ev P C.G f args [] ret [])
    (hg : guardIs ops (look ρ) ⟨dst, .call { callee := .value (.func f), args := as, argTypes := ts }, ty, pos, af, gd⟩ true) (hN : dstOk ⟨dst, .call { callee := .value (.func f), args := as, argTypes := ts }, ty, pos, af, gd⟩ C.N = true)
    (h : Tr P C ops rest ⟨putL ρ dst ret, σ, ls⟩ (fun fs x' => K (⟨Oper.looksAt ops ⟨dst, .call { callee := .value (.func f), args := as, argTypes := ts }, ty, pos, af, gd⟩, dst, [], []⟩ :: fs) x')) : Tr P C ops (⟨dst, .call { callee := .value (.func f), args := as, argTypes := ts }, ty, pos, af, gd⟩ :: rest) ⟨ρ, σ, ls⟩ K :=
  s_call (caps := []) rfl (.inr ⟨rfl, rfl⟩) ha hle (by rw [List.append_nil]; exact hev) hg hN h
theorem s_callSF {P : Program} {C : Ctx} {ops : Array Oper} {rest : List Oper} {ρ : List (Nat × V)} {σ : List (Nat × Option O)} {ls : List Nat} {K : List FP → A → Prop}
    {dst : Option Nat} {f : FuncId} {as : Array Operand} {ts : Array TypeId} {ty pos af gd} {vals args : List V} {ret : V} {τ τ' : List (Nat × O)}
    (ha : opdL C.G (look ρ) as.toList = some vals) (hle : VLes vals args) (hev : Ev P C.G f args τ ret τ') (hσ : lookL σ (τ.map (·.1)) = some (τ.map (·.2))) (hk : subK τ τ' = true) (hfr : freshK τ τ' ls = true)
    (hg : guardIs ops (look ρ) ⟨dst, .call { callee := .value (.func f), args := as, argTypes := ts }, ty, pos, af, gd⟩ true) (hN : dstOk ⟨dst, .call { callee := .value (.func f), args := as, argTypes := ts }, ty, pos, af, gd⟩ C.N = true)
    (h : Tr P C ops rest ⟨putL ρ dst ret, someO τ' ++ σ, τ'.map (·.1) ++ ls⟩ (fun fs x' => K (⟨Oper.looksAt ops ⟨dst, .call { callee := .value (.func f), args := as, argTypes := ts }, ty, pos, af, gd⟩, dst, τ.map (·.1), τ'.map (·.1)⟩ :: fs) x')) : Tr P C ops (⟨dst, .call { callee := .value (.func f), args := as, argTypes := ts }, ty, pos, af, gd⟩ :: rest) ⟨ρ, σ, ls⟩ K :=
  s_callS (caps := []) rfl (.inr ⟨rfl, rfl⟩) ha hle (by rw [List.append_nil]; exact hev) hσ hk hfr hg hN h
def SigTo (σ : List (Nat × Option O)) : List (Nat × O) → Prop
  | [] => True
  | (l, o) :: r => (∃ o', lookO σ l = some o' ∧ OLe o' o) ∧ SigTo σ r
theorem sigTo_at {σ : List (Nat × Option O)} : ∀ {σ' : List (Nat × O)}, SigTo σ σ' → ∀ l o, look σ' l = some o → ∃ o', lookO σ l = some o' ∧ OLe o' o
  | [], _, l, o, h => by cases h
  | (k, x) :: r, h, l, o, hl => by
    rw [look_cons] at hl
    split at hl
    · rename_i e; subst e; injection hl with hl; subst hl; exact h.1
    · exact sigTo_at h.2 l o hl
theorem VLe.boolE {a b : Bool} (h : a = b) : VLe (.d (.bool a)) (.d (.bool b)) := by subst h; exact .rfl
theorem VLe.intE {k : IntKind} {a b : Int} (h : a = b) : VLe (.d (.int k a)) (.d (.int k b)) := by subst h; exact .rfl
theorem VLe.sliceE {a b : List (List D)} (h : a = b) : VLe (.d (.slice a)) (.d (.slice b)) := by subst h; exact .rfl
theorem VLe.ownE {a b : List (List D)} {l : Nat} (h : a = b) : VLe (.own a l) (.d (.slice b)) := by subst h; exact .own
theorem VLe.ownO {a b : List (List D)} {l : Nat} (h : a = b) : VLe (.own a l) (.own b l) := by subst h; exact .rfl
theorem VLe.fullE {a b : List (List D)} (h : a = b) : VLe (.full a) (.d (.slice b)) := by subst h; exact .full
theorem VLe.nilsE {b : List (List D)} (h : b = []) : VLe (.d .nils) (.d (.slice b)) := by subst h; exact .nils
theorem VLe.dE {a b : D} (h : a = b) : VLe (.d a) (.d b) := by subst h; exact .rfl
def dOne : V → Option D
  | .d x => some x
  | .own es _ => some (.slice es)
  | .full es => some (.slice es)
  | _ => none
theorem dOne_le {v : V} {x : D} (h : dOne v = some x) : VLe v (.d x) := by
  cases v <;> simp only [dOne, Option.some.injEq] at h <;> first | (subst h; first | exact .rfl | exact .own | exact .full) | cases h
def dL : List V → Option (List D)
  | [] => some []
  | v :: r => match dOne v, dL r with
    | some x, some xs => some (x :: xs)
    | _, _ => none
theorem dL_le : ∀ {vs : List V} {ds : List D}, dL vs = some ds → VLes vs (ds.map V.d)
  | [], ds, h => by simp only [dL, Option.some.injEq] at h; subst h; exact .nil
  | v :: r, ds, h => by
    unfold dL at h
    split at h
    · rename_i x xs h1 h2
      injection h with h; subst h
      exact .cons (dOne_le h1) (dL_le h2)
    · cases h
def elemD : V → Option (List D)
  | .agg vs => dL vs
  | .d x => some [x]
  | .own es _ => some [.slice es]
  | .full es => some [.slice es]
  | _ => none
theorem elemD_ok {v : V} {e : List D} (h : elemD v = some e) : Elem v e := by
  cases v <;> simp only [elemD, Option.some.injEq] at h
  case agg vs => exact .agg (dL_le h)
  case d x => subst h; exact .d
  case own es l => subst h; exact .slice .own
  case full es => subst h; exact .slice .full
  all_goals cases h
def elemsL : List V → Option (List (List D))
  | [] => some []
  | v :: r => match elemD v, elemsL r with
    | some x, some xs => some (x :: xs)
    | _, _ => none
theorem Elems.ofL : ∀ {vs : List V} {es : List (List D)}, elemsL vs = some es → Elems vs es
  | [], es, h => by simp only [elemsL, Option.some.injEq] at h; subst h; exact .nil
  | v :: r, es, h => by
    unfold elemsL at h
    split at h
    · rename_i x xs h1 h2
      injection h with h; subst h
      exact .cons (elemD_ok h1) (Elems.ofL h2)
    · cases h
theorem OLe.row {n m sz e : Nat} (h : n = m) : OLe (.row n sz e) (.row m sz e) := by subst h; exact .rfl
theorem i64_id {x : Int} (h1 : -9223372036854775808 ≤ x) (h2 : x < 9223372036854775808) : IntKind.i64.wrap x = x := IntWalk.i64_in x (by omega)
end Go.AM

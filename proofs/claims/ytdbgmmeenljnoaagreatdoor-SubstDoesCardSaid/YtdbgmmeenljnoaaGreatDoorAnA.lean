/-
  The walk, reckoned: the table of the program's types, and what an operation asks and gives, as a function.
-/
import Derived.Test.YtdbgmmeenljnoaaGreatDoorAmL
set_option linter.unusedVariables false
set_option linter.unusedSimpArgs false
namespace Go.AM
open Go Go.RowKit

/-! ### The table of types -/
structure TI where
  kd : Nat
  size : Nat
  agg : Bool
  zero : Option (List D)
  flds : List (Nat × Nat)
  elem : Nat
  esz : Nat
  eby : Nat
  len : Nat
  ik : IntKind
  mz : Option V
  fty : List Nat
inductive TT where
  | nil
  | node (l : TT) (k : Nat) (i : TI) (r : TT)
def TT.get : TT → Nat → Option TI
  | .nil, _ => none
  | .node l k i r, t => match Nat.blt t k with
    | true => l.get t
    | false => match Nat.beq t k with
      | true => some i
      | false => r.get t
def zeroOk : List D → List Value → Bool
  | [], [] => true
  | .bool b :: ds, .bool c :: vs => (b == c) && zeroOk ds vs
  | .int k n :: ds, .int k' n' :: vs => (k == k') && (n == n') && zeroOk ds vs
  | .str s :: ds, .string s' :: vs => Nat.beq s.size 0 && Nat.beq s'.size 0 && zeroOk ds vs
  | .nilPtr :: ds, .pointer none :: vs => zeroOk ds vs
  | .nils :: ds, .slice none 0 0 :: vs => zeroOk ds vs
  | .nilFunc :: ds, .nilFunc :: vs => zeroOk ds vs
  | .nilIface :: ds, .nilIface :: vs => zeroOk ds vs
  | .nilMap :: ds, .map none :: vs => zeroOk ds vs
  | _, _ => false
theorem zeroOk_rep {M : Mem} {ι : Env} : ∀ {ds : List D} {vs : List Value}, zeroOk ds vs = true → RepVs M ι (ds.map V.d) vs := by
  intro ds vs
  fun_induction zeroOk ds vs with
  | case1 => intro _; simp [RepVs]
  | case2 b ds c vs ih => intro h; simp only [Bool.and_eq_true, beq_iff_eq] at h; obtain ⟨rfl, h⟩ := h; simp only [List.map_cons, RepVs, RepV, RepD]; exact ⟨_, _, rfl, rfl, ih h⟩
  | case3 k n ds k' n' vs ih => intro h; simp only [Bool.and_eq_true, beq_iff_eq] at h; obtain ⟨⟨rfl, rfl⟩, h⟩ := h; simp only [List.map_cons, RepVs, RepV, RepD]; exact ⟨_, _, rfl, rfl, ih h⟩
  | case4 s ds s' vs ih =>
    intro h
    simp only [Bool.and_eq_true] at h
    obtain ⟨⟨h1, h2⟩, h⟩ := h
    have e1 := Nat.eq_of_beq_eq_true h1
    have e2 := Nat.eq_of_beq_eq_true h2
    have : s' = s := by
      have a1 : s.data = #[] := Array.eq_empty_of_size_eq_zero e1
      have a2 : s'.data = #[] := Array.eq_empty_of_size_eq_zero e2
      cases s; cases s'; simp_all
    simp only [List.map_cons, RepVs, RepV, RepD]; exact ⟨_, _, rfl, by rw [this], ih h⟩
  | case5 ds vs ih => intro h; simp only [List.map_cons, RepVs, RepV, RepD]; exact ⟨_, _, rfl, rfl, ih h⟩
  | case6 ds vs ih => intro h; simp only [List.map_cons, RepVs, RepV, RepD]; exact ⟨_, _, rfl, rfl, ih h⟩
  | case7 ds vs ih => intro h; simp only [List.map_cons, RepVs, RepV, RepD]; exact ⟨_, _, rfl, rfl, ih h⟩
  | case8 ds vs ih => intro h; simp only [List.map_cons, RepVs, RepV, RepD]; exact ⟨_, _, rfl, rfl, ih h⟩
  | case9 ds vs ih => intro h; simp only [List.map_cons, RepVs, RepV, RepD]; exact ⟨_, _, rfl, rfl, ih h⟩
  | case10 => intro h; simp at h
def fldsB (P : Program) (t : Nat) : Nat → List (Nat × Nat) → Bool
  | _, [] => true
  | j, (off, sz) :: r => (Nat.beq sz 0 || fldB P t j off) && fldsB P t (j + 1) r
def placesB : List (Nat × Nat) → List (Nat × Nat) → Bool
  | [], [] => true
  | (a, b) :: r, (c, d) :: s => Nat.beq a c && Nat.beq b d && placesB r s
  | _, _ => false
theorem placesB_eq : ∀ {xs ys : List (Nat × Nat)}, placesB xs ys = true → xs = ys
  | [], [], _ => rfl
  | (a, b) :: r, (c, d) :: s, h => by
    simp only [placesB, Bool.and_eq_true] at h
    rw [Nat.eq_of_beq_eq_true h.1.1, Nat.eq_of_beq_eq_true h.1.2, placesB_eq h.2]
  | [], _ :: _, h => by simp [placesB] at h
  | _ :: _, [], h => by simp [placesB] at h
def undB (P : Program) (t : Nat) (k : Nat) : Bool := match P.underlying t with
  | some .bool => Nat.beq k 2
  | some .string => Nat.beq k 3
  | _ => false
def mapB (P : Program) (t e ek : Nat) : Bool := match P.underlying t with
  | some (.map k v) => Nat.beq k ek && Nat.beq v e
  | _ => false
def descOf : Nat → TypeDesc
  | 1 => .int .i64
  | 2 => .bool
  | _ => .string
def kcB (P : Program) (t kc : Nat) : Bool := match P.underlying t with
  | some (.int .i64) => Nat.beq kc 1
  | some .bool => Nat.beq kc 2
  | some .string => Nat.beq kc 3
  | _ => false
/-- A type's zero value, as one value. -/
structure ZeroV (P : Program) (t : Nat) (x : V) : Prop where
  out : ∃ i z, P.info? t = some i ∧ i.zero = some z ∧ ∀ M, RepV M (fun _ => none) x z
  on : x.on [] = true
def unD : List V → Option (List D)
  | [] => some []
  | .d x :: r => match unD r with
    | some xs => some (x :: xs)
    | none => none
  | _ => none
def zvB (P : Program) (t : Nat) (z : V) : Bool := match P.info? t with
  | none => false
  | some i => match i.zero with
    | none => false
    | some v => match z with
      | .d x => zeroOk [x] [v]
      | .agg vs => match unD vs, v with
        | some ds, .agg cs => zeroOk ds cs.toList && cs.toList.all (fun x => x.oneCell')
        | _, _ => false
      | _ => false
theorem unD_eq : ∀ {vs : List V} {ds : List D}, unD vs = some ds → vs = ds.map V.d
  | [], ds, h => by simp only [unD, Option.some.injEq] at h; subst h; rfl
  | .d x :: r, ds, h => by
    unfold unD at h
    split at h
    · rename_i xs hx
      injection h with h; subst h
      rw [unD_eq hx]; rfl
    · cases h
  | .any :: _, _, h => by cases h
  | .full _ :: _, _, h => by cases h
  | .ptr _ _ :: _, _, h => by cases h
  | .cptr _ :: _, _, h => by cases h
  | .own _ _ :: _, _, h => by cases h
  | .clo _ _ :: _, _, h => by cases h
  | .map _ :: _, _, h => by cases h
  | .agg _ :: _, _, h => by cases h
  | .tup _ :: _, _, h => by cases h
  | .arr _ _ :: _, _, h => by cases h
  | .aptr _ _ _ _ _ :: _, _, h => by cases h
  | .val _ :: _, _, h => by cases h
theorem onAll_d (ds : List D) : V.onAll [] (ds.map V.d) = true := by
  induction ds with
  | nil => simp [V.onAll]
  | cons x r ih => simp [V.onAll, V.on, ih]
theorem zvB_ok {P : Program} {t : Nat} {z : V} (h : zvB P t z = true) : ZeroV P t z := by
  unfold zvB at h
  split at h
  · cases h
  · rename_i i hi
    split at h
    · cases h
    · rename_i v hv
      split at h
      · rename_i x
        refine ⟨⟨i, v, hi, hv, fun M => ?_⟩, rfl⟩
        have := zeroOk_rep (M := M) (ι := fun _ => none) h
        simp only [List.map_cons, List.map_nil, RepVs] at this
        obtain ⟨v', r, e, h1, _⟩ := this
        injection e with e _; subst e; exact h1
      · rename_i vs
        split at h
        · rename_i ds cs hd
          rw [Bool.and_eq_true] at h
          have hd := unD_eq hd
          subst hd
          refine ⟨⟨i, _, hi, hv, fun M => ?_⟩, by simp [V.on, onAll_d]⟩
          simp only [RepV]
          exact ⟨cs.toList, by simp, zeroOk_rep h.1, fun x hx => List.all_eq_true.1 h.2 x hx⟩
        · cases h
      · cases h
def fnB (P : Program) (t : Nat) : Bool := match P.underlying t with
  | some (.func _ _ _) => true
  | _ => false
def natsB : List Nat → List Nat → Bool
  | [], [] => true
  | a :: r, b :: s => Nat.beq a b && natsB r s
  | _, _ => false
theorem natsB_eq : ∀ {xs ys : List Nat}, natsB xs ys = true → xs = ys
  | [], [], _ => rfl
  | a :: r, b :: s, h => by
    simp only [natsB, Bool.and_eq_true] at h
    rw [Nat.eq_of_beq_eq_true h.1, natsB_eq h.2]
  | [], _ :: _, h => by simp [natsB] at h
  | _ :: _, [], h => by simp [natsB] at h
def ftyB (P : Program) (t : Nat) (ts : List Nat) : Bool := match P.underlying t with
  | some (.struct fs) => natsB (fs.toList.map (·.type)) ts
  | _ => false
def tiB (P : Program) (t : Nat) (i : TI) : Bool :=
  tyB P t i.size i.agg &&
  (match i.zero with
    | none => true
    | some zs => match P.info? t with
      | some x => match x.zero with
        | some z => zeroOk zs z.cells.toList
        | none => false
      | none => false) &&
  (!Nat.beq i.kd 6 || (plcB P t && placesB (places P t) i.flds && fldsB P t 0 i.flds)) &&
  (!Nat.beq i.kd 4 || (sliB P t i.elem i.esz i.eby && Nat.blt 0 i.eby && Nat.ble i.eby 70000)) &&
  (!Nat.beq i.kd 5 || arrB P t i.len i.elem i.esz) &&
  (!Nat.beq i.kd 1 || intB P t i.ik) &&
  (!Nat.beq i.kd 2 || undB P t 2) && (!Nat.beq i.kd 3 || undB P t 3) && (!Nat.beq i.kd 7 || (mapB P t i.elem i.len && kcB P i.len i.eby && (match i.mz with | none => true | some z => zvB P i.elem z))) && (!Nat.beq i.kd 8 || fnB P t) && (!Nat.beq i.kd 6 || ftyB P t i.fty)
def TT.okB (P : Program) : TT → Bool
  | .nil => true
  | .node l k i r => tiB P k i && l.okB P && r.okB P
structure TIOk (P : Program) (t : Nat) (i : TI) : Prop where
  ty : Ty P t i.size i.agg
  zero : ∀ zs, i.zero = some zs → Zer P t zs
  plc : i.kd = 6 → Plc P t i.flds
  fld : i.kd = 6 → ∀ j off sz, i.flds[j]? = some (off, sz) → 0 < sz → Fld P t j off
  sli : i.kd = 4 → Sli P t i.elem i.esz i.eby ∧ 0 < i.eby ∧ i.eby ≤ 70000
  arr : i.kd = 5 → Arr P t i.len i.elem i.esz
  int : i.kd = 1 → intB P t i.ik = true
  bool : i.kd = 2 → P.underlying t = some .bool
  str : i.kd = 3 → P.underlying t = some .string
  map : i.kd = 7 → P.underlying t = some (.map i.len i.elem) ∧ P.underlying i.len = some (descOf i.eby) ∧ ∀ z, i.mz = some z → ZeroV P i.elem z
  fn : i.kd = 8 → ∃ a b c, P.underlying t = some (.func a b c)
  fty : i.kd = 6 → ∃ fs, P.underlying t = some (.struct fs) ∧ fs.toList.map (·.type) = i.fty
theorem fldsB_at {P : Program} {t : Nat} : ∀ {fs : List (Nat × Nat)} {j0 : Nat}, fldsB P t j0 fs = true → ∀ j off sz, fs[j]? = some (off, sz) → 0 < sz → Fld P t (j0 + j) off
  | [], _, _, j, off, sz, h, _ => by simp at h
  | (o, s) :: r, j0, h, j, off, sz, hj, hs => by
    simp only [fldsB, Bool.and_eq_true, Bool.or_eq_true] at h
    cases j with
    | zero =>
      simp at hj
      obtain ⟨rfl, rfl⟩ := hj
      rcases h.1 with h1 | h1
      · have := Nat.eq_of_beq_eq_true h1; omega
      · exact Fld.of h1
    | succ j =>
      have := fldsB_at h.2 j off sz (by simpa using hj) hs
      rwa [show j0 + 1 + j = j0 + (j + 1) by omega] at this
theorem tiB_ok {P : Program} {t : Nat} {i : TI} (h : tiB P t i = true) : TIOk P t i := by
  simp only [tiB, Bool.and_eq_true, Bool.or_eq_true, Bool.not_eq_true'] at h
  obtain ⟨⟨⟨⟨⟨⟨⟨⟨⟨⟨h1, h2⟩, h3⟩, h4⟩, h5⟩, h6⟩, h7⟩, h8⟩, h9⟩, h10⟩, h11⟩ := h
  have kn : ∀ {n : Nat}, i.kd = n → Nat.beq i.kd n = true := fun e => by rw [e]; exact Nat.beq_refl _
  have no : ∀ {n : Nat} {q : Prop}, i.kd = n → Nat.beq i.kd n = false ∨ q → q := fun e hq => hq.resolve_left (by rw [kn e]; simp)
  refine ⟨Ty.of h1, fun zs hz => ?_, fun e => ?_, fun e => ?_, fun e => ?_, fun e => ?_, fun e => ?_, fun e => ?_, fun e => ?_, fun e => ?_, fun e => ?_, fun e => ?_⟩
  · rw [hz] at h2
    simp only at h2
    split at h2
    · rename_i x hx
      split at h2
      · rename_i z hz'
        exact ⟨x, z, hx, hz', fun M => zeroOk_rep h2⟩
      · cases h2
    · cases h2
  · have := no e h3
    exact Plc.of this.1.1 (placesB_eq this.1.2)
  · have := no e h3
    intro j off sz hj hs
    have := fldsB_at this.2 j off sz hj hs
    rwa [Nat.zero_add] at this
  · have := no e h4
    exact ⟨Sli.of this.1.1, by simpa [Nat.blt_eq] using this.1.2, Nat.le_of_ble_eq_true this.2⟩
  · exact Arr.of (no e h5)
  · exact no e h6
  · have := no e h7
    unfold undB at this
    split at this
    · rename_i hh; exact hh
    · simp at this
    · cases this
  · have := no e h8
    unfold undB at this
    split at this
    · simp at this
    · rename_i hh; exact hh
    · cases this
  · have := no e h9
    obtain ⟨⟨t1, t2⟩, t3⟩ := this
    refine ⟨?_, ?_, ?_⟩
    · unfold mapB at t1
      split at t1
      · rename_i k v hh
        simp only [Bool.and_eq_true] at t1
        rw [hh, Nat.eq_of_beq_eq_true t1.1, Nat.eq_of_beq_eq_true t1.2]
      · cases t1
    · unfold kcB at t2
      split at t2 <;> first | (rename_i hh; rw [hh, Nat.eq_of_beq_eq_true t2]; rfl) | cases t2
    · intro z hz
      rw [hz] at t3
      exact zvB_ok t3
  · have := no e h10
    unfold fnB at this
    split at this
    · rename_i a b c hh; exact ⟨a, b, c, hh⟩
    · cases this
  · have := no e h11
    unfold ftyB at this
    split at this
    · rename_i fs hh; exact ⟨fs, hh, natsB_eq this⟩
    · cases this
def TOk (P : Program) (T : TT) : Prop := ∀ t i, T.get t = some i → TIOk P t i
theorem TOk.of {P : Program} : ∀ {T : TT}, T.okB P = true → TOk P T
  | .nil, _, t, i, h => by simp [TT.get] at h
  | .node l k x r, hB, t, i, h => by
    simp only [TT.okB, Bool.and_eq_true] at hB
    simp only [TT.get] at h
    split at h
    · exact TOk.of hB.1.2 t i h
    · split at h
      · rename_i hb
        injection h with h; subst h
        rw [Nat.eq_of_beq_eq_true hb]
        exact tiB_ok hB.1.1
      · exact TOk.of hB.2 t i h

/-! ### What is forced -/
def lk : List (Nat × V) → Nat → Option V
  | [], _ => none
  | (k, v) :: r, t => match Nat.beq k t with
    | true => some v
    | false => lk r t
theorem lk_eq (ρ : List (Nat × V)) (t : Nat) : lk ρ t = look ρ t := by
  induction ρ with
  | nil => rfl
  | cons p r ih =>
    obtain ⟨k, v⟩ := p
    rw [look_cons]
    unfold lk
    cases hb : Nat.beq k t with
    | true => rw [if_pos (Nat.eq_of_beq_eq_true hb)]
    | false => rw [if_neg (fun e => by rw [e, Nat.beq_refl] at hb; cases hb)]; exact ih
def lo : List (Nat × Option O) → Nat → Option O
  | [], _ => none
  | (k, v) :: r, t => match Nat.beq k t with
    | true => v
    | false => lo r t
theorem lo_eq (σ : List (Nat × Option O)) (t : Nat) : lo σ t = lookO σ t := by
  induction σ with
  | nil => rfl
  | cons p r ih =>
    obtain ⟨k, v⟩ := p
    unfold lookO
    rw [look_cons]
    unfold lo
    cases hb : Nat.beq k t with
    | true => rw [if_pos (Nat.eq_of_beq_eq_true hb)]
    | false => rw [if_neg (fun e => by rw [e, Nat.beq_refl] at hb; cases hb)]; exact ih
def lg : Gl → Nat → Option (List D)
  | [], _ => none
  | (k, v) :: r, t => match Nat.beq k t with
    | true => some v
    | false => lg r t
theorem lg_eq (G : Gl) (t : Nat) : lg G t = look G t := by
  induction G with
  | nil => rfl
  | cons p r ih =>
    obtain ⟨k, v⟩ := p
    rw [look_cons]
    unfold lg
    cases hb : Nat.beq k t with
    | true => rw [if_pos (Nat.eq_of_beq_eq_true hb)]
    | false => rw [if_neg (fun e => by rw [e, Nat.beq_refl] at hb; cases hb)]; exact ih
def opV (G : Gl) (ρ : List (Nat × V)) : Operand → Option V
  | .tmp t => lk ρ t
  | .const v => constV v
  | .global g => match lg G g with
    | some cs => some (.cptr cs)
    | none => none
  | .func f => some (.d (.fn f))
theorem opV_eq (G : Gl) (ρ : List (Nat × V)) (x : Operand) : opV G ρ x = opd G (look ρ) x := by
  cases x with
  | tmp t => exact lk_eq ρ t
  | const c => rfl
  | global g =>
    simp only [opV, opd, lg_eq]
    cases look G g <;> rfl
  | func f => rfl
def opVs (G : Gl) (ρ : List (Nat × V)) : List Operand → Option (List V)
  | [] => some []
  | x :: r => match opV G ρ x with
    | none => none
    | some v => match opVs G ρ r with
      | none => none
      | some vs => some (v :: vs)
theorem opVs_some {G : Gl} {ρ : List (Nat × V)} : ∀ {xs : List Operand} {vs : List V}, opVs G ρ xs = some vs → Opds G (look ρ) xs vs
  | [], vs, h => by simp only [opVs, Option.some.injEq] at h; subst h; rfl
  | x :: r, vs, h => by
    unfold opVs at h
    split at h
    · cases h
    · rename_i v hv
      split at h
      · cases h
      · rename_i ws hws
        injection h with h; subst h
        exact ⟨_, _, rfl, (opV_eq G ρ x).symm.trans hv, opVs_some hws⟩
def nth {α : Type} : List α → Nat → Option α
  | [], _ => none
  | a :: r, n => match n with
    | 0 => some a
    | n + 1 => nth r n
theorem nth_eq {α : Type} : ∀ (l : List α) (n : Nat), nth l n = l[n]?
  | [], n => by simp [nth]
  | a :: r, 0 => rfl
  | a :: r, n + 1 => by simp [nth, nth_eq r n]
def fD (x : D) (k : D → Prop) : Prop := match x with
  | .bool b => k (.bool b)
  | .int t n => k (.int t n)
  | .str s => k (.str s)
  | .slice es => k (.slice es)
  | .nils => k .nils
  | .fn f => k (.fn f)
  | .nilFunc => k .nilFunc
  | .nilPtr => k .nilPtr
  | .nilMap => k .nilMap
  | .nilIface => k .nilIface
theorem fD_iff {x : D} {k : D → Prop} : fD x k ↔ k x := by cases x <;> exact Iff.rfl
def fDs (xs : List D) (k : List D → Prop) : Prop := match xs with
  | [] => k []
  | x :: r => fD x fun x => fDs r fun r => k (x :: r)
theorem fDs_iff : ∀ {xs : List D} {k : List D → Prop}, fDs xs k ↔ k xs
  | [], k => Iff.rfl
  | x :: r, k => by unfold fDs; rw [fD_iff, fDs_iff]
mutual
def fV (v : V) (k : V → Prop) : Prop := match v with
  | .any => k .any
  | .d x => fD x fun x => k (.d x)
  | .full es => k (.full es)
  | .ptr l o => k (.ptr l o)
  | .cptr cs => fDs cs fun cs => k (.cptr cs)
  | .own es l => k (.own es l)
  | .clo f cs => fVs cs fun cs => k (.clo f cs)
  | .map l => k (.map l)
  | .agg cs => fVs cs fun cs => k (.agg cs)
  | .tup cs => fVs cs fun cs => k (.tup cs)
  | .arr n l => k (.arr n l)
  | .aptr n l sz i o => k (.aptr n l sz i o)
  | .val v => k (.val v)
def fVs (vs : List V) (k : List V → Prop) : Prop := match vs with
  | [] => k []
  | v :: r => fV v fun v => fVs r fun r => k (v :: r)
end
mutual
theorem fV_iff : ∀ {v : V} {k : V → Prop}, fV v k ↔ k v
  | .any, k => by unfold fV; exact Iff.rfl
  | .d x, k => by unfold fV; rw [fD_iff]
  | .full es, k => by unfold fV; exact Iff.rfl
  | .ptr l o, k => by unfold fV; exact Iff.rfl
  | .cptr cs, k => by unfold fV; rw [fDs_iff]
  | .own es l, k => by unfold fV; exact Iff.rfl
  | .clo f cs, k => by unfold fV; rw [fVs_iff]
  | .map l, k => by unfold fV; exact Iff.rfl
  | .agg cs, k => by unfold fV; rw [fVs_iff]
  | .tup cs, k => by unfold fV; rw [fVs_iff]
  | .arr n l, k => by unfold fV; exact Iff.rfl
  | .aptr n l sz i o, k => by unfold fV; exact Iff.rfl
  | .val v, k => by unfold fV; exact Iff.rfl
theorem fVs_iff : ∀ {vs : List V} {k : List V → Prop}, fVs vs k ↔ k vs
  | [], k => by unfold fVs; exact Iff.rfl
  | v :: r, k => by unfold fVs; rw [fV_iff, fVs_iff]
end
def fO (o : O) (k : O → Prop) : Prop := match o with
  | .cells vs t => fVs vs fun vs => k (.cells vs t)
  | .row n sz t => k (.row n sz t)
  | .map es => k (.map es)
  | .arr es sz t => k (.arr es sz t)
  | .raw q tg ob => k (.raw q tg ob)
theorem fO_iff {o : O} {k : O → Prop} : fO o k ↔ k o := by cases o <;> simp only [fO] <;> first | exact Iff.rfl | exact fVs_iff
def fSig (σ : List (Nat × O)) (k : List (Nat × O) → Prop) : Prop := match σ with
  | [] => k []
  | (l, o) :: r => fO o fun o => fSig r fun r => k ((l, o) :: r)
theorem fSig_iff : ∀ {σ : List (Nat × O)} {k : List (Nat × O) → Prop}, fSig σ k ↔ k σ
  | [], k => Iff.rfl
  | (l, o) :: r, k => by unfold fSig; rw [fO_iff, fSig_iff]

/- A value as data, whatever else is known of it. -/
mutual
def plV : V → V
  | .own es _ => .d (.slice es)
  | .full es => .d (.slice es)
  | .d .nils => .d (.slice [])
  | .d (.fn f) => .clo f []
  | .agg cs => .agg (plVs cs)
  | .tup cs => .tup (plVs cs)
  | v => v
def plVs : List V → List V
  | [] => []
  | v :: r => plV v :: plVs r
end
mutual
theorem plV_le : ∀ v : V, VLe v (plV v)
  | .own es _ => by unfold plV; exact .own
  | .full es => by unfold plV; exact .full
  | .d .nils => by unfold plV; exact .nils
  | .d (.fn f) => by unfold plV; exact .clo
  | .agg cs => by unfold plV; exact .agg (plVs_le cs)
  | .tup cs => by unfold plV; exact .tup (plVs_le cs)
  | .any => by unfold plV; exact .rfl
  | .d (.bool _) => by unfold plV; exact .rfl
  | .d (.int _ _) => by unfold plV; exact .rfl
  | .d (.str _) => by unfold plV; exact .rfl
  | .d (.slice _) => by unfold plV; exact .rfl
  | .d .nilFunc => by unfold plV; exact .rfl
  | .d .nilPtr => by unfold plV; exact .rfl
  | .d .nilMap => by unfold plV; exact .rfl
  | .d .nilIface => by unfold plV; exact .rfl
  | .ptr _ _ => by unfold plV; exact .rfl
  | .cptr _ => by unfold plV; exact .rfl
  | .clo _ _ => by unfold plV; exact .rfl
  | .map _ => by unfold plV; exact .rfl
  | .arr _ _ => by unfold plV; exact .rfl
  | .aptr _ _ _ _ _ => by unfold plV; exact .rfl
  | .val _ => by unfold plV; exact .rfl
theorem plVs_le : ∀ vs : List V, VLes vs (plVs vs)
  | [] => by unfold plVs; exact .nil
  | v :: r => by unfold plVs; exact .cons (plV_le v) (plVs_le r)
end
/- What is held, said as the first one says it. -/
mutual
def coV : V → V → V
  | .d (.slice _), v => plV v
  | .clo _ _, .d (.fn f) => .clo f []
  | .agg cs, .agg ds => .agg (coVs cs ds)
  | .tup cs, .tup ds => .tup (coVs cs ds)
  | .any, _ => .any
  | _, v => v
def coVs : List V → List V → List V
  | c :: cs, d :: ds => coV c d :: coVs cs ds
  | _, ds => ds
end
mutual
theorem coV_le : ∀ (c v : V), VLe v (coV c v)
  | c, v => by
    unfold coV
    split
    · exact plV_le _
    · exact .clo
    · exact .agg (coVs_le _ _)
    · exact .tup (coVs_le _ _)
    · exact .any
    · exact .rfl
theorem coVs_le : ∀ (cs vs : List V), VLes vs (coVs cs vs)
  | c :: cs, d :: ds => by unfold coVs; exact .cons (coV_le c d) (coVs_le cs ds)
  | [], ds => by unfold coVs; exact .rfl
  | _ :: _, [] => by unfold coVs; exact .rfl
end
def coO : O → O → O
  | .cells cs _, .cells ds t => .cells (coVs cs ds) t
  | _, o => o
theorem coO_le (c o : O) : OLe o (coO c o) := by
  unfold coO
  split
  · exact .cells (coVs_le _ _)
  · exact .rfl
end Go.AM

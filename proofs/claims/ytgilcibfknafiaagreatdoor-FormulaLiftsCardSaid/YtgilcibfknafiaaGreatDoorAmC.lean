/-
  Regions: the operations of a region, met in the order of the text, in whatever order the machine runs them.
-/
import Derived.Test.YtgilcibfknafiaaGreatDoorAmB
import Derived.Orders
set_option linter.unusedVariables false
set_option linter.unusedSimpArgs false
namespace Go.AM
open Go Go.RowKit

/-- What package-level variables hold, cell by cell; they never turn. -/
abbrev Gl := List (Nat × List D)
def GOk (G : Gl) (M : Mem) : Prop := ∀ g cs, look G g = some cs → RepRow M cs ⟨g, 0, none⟩
theorem GOk.grow {G : Gl} {M M' : Mem} (h : GOk G M) (hm : ∀ a v, M a = some v → M' a = some v) : GOk G M' := fun g cs hg => RepRow.grow hm _ _ (h g cs hg)

def constV : Value → Option V
  | .bool b => some (.d (.bool b))
  | .int k n => some (.d (.int k n))
  | .string s => some (.d (.str s))
  | .pointer none => some (.d .nilPtr)
  | .slice none 0 0 => some (.d .nils)
  | .nilFunc => some (.d .nilFunc)
  | .nilIface => some (.d .nilIface)
  | .map none => some (.d .nilMap)
  | _ => none
theorem constV_rep {M : Mem} {ι : Env} {v : Value} {x : V} (h : constV v = some x) : RepV M ι x v := by
  unfold constV at h
  split at h <;> first | (injection h with h; subst h; simp [RepV, RepD]) | cases h

def opd (G : Gl) (ρ : Nat → Option V) : Operand → Option V
  | .tmp t => ρ t
  | .const v => constV v
  | .global g => (look G g).map V.cptr
  | .func f => some (.d (.fn f))

/-- The operands' values, one by one. -/
def Opds (G : Gl) (ρ : Nat → Option V) : List Operand → List V → Prop
  | [], l => l = []
  | x :: xs, l => ∃ v r, l = v :: r ∧ opd G ρ x = some v ∧ Opds G ρ xs r

def Sto.upd (H : Sto) : List (Nat × Option O) → Sto
  | [] => H
  | (l, o) :: r => fun k => if k = l then o else Sto.upd H r k

theorem Sto.upd_not (H : Sto) : ∀ (wr : List (Nat × Option O)) (l : Nat), l ∉ wr.map (·.1) → H.upd wr l = H l
  | [], _, _ => rfl
  | (k, o) :: r, l, h => by
    simp only [List.map_cons, List.mem_cons, not_or] at h
    simp only [Sto.upd, if_neg h.1]
    exact Sto.upd_not H r l h.2
theorem Sto.upd_in (H H' : Sto) : ∀ (wr : List (Nat × Option O)) (l : Nat), l ∈ wr.map (·.1) → H.upd wr l = H'.upd wr l
  | [], _, h => by cases h
  | (k, o) :: r, l, h => by
    simp only [Sto.upd]
    by_cases e : l = k
    · simp [e]
    · simp only [List.map_cons, List.mem_cons, e, false_or] at h
      simp only [e, if_false]
      exact Sto.upd_in H H' r l h

/-- What an operation does, whatever else the store holds: from the objects 'fp' it makes 'wr', and it gives 'v'. -/
def AOp (P : Program) (G : Gl) (o : Oper) (vals : List V) (fp : List (Nat × O)) (wr : List (Nat × Option O)) (v : V) : Prop :=
  ∀ (E : Entry) (M : Mem) (ι : Env) (H : Sto) (w : World) (a : Act) (next : Act → World → Prop) (Q : Exit → Act → World → Prop),
    Inv E M ι H w → GOk G M → (∀ l o', (l, o') ∈ fp → H l = some o') → RepVs M ι vals (o.op.operands.toList.map a.eval) →
    (∀ l, l ∈ wr.map (·.1) → l ∉ fp.map (·.1) → ι l = none) →
    (∀ M' ι' w' cv, Grow M ι M' ι' → (∀ l, l ∉ wr.map (·.1) → ι' l = ι l) → Inv E M' ι' (H.upd wr) w' → RepV M' ι' v cv → next (a.put o.dst cv) w') →
    o.wp P a w next Q

structure Rec where
  o : Oper
  vals : List V
  fp : List (Nat × O)
  wr : List (Nat × Option O)
  v : V

def guardIs (ops : Array Oper) (ρ : Nat → Option V) (o : Oper) (b : Bool) : Prop :=
  match o.guard with
  | none => b = true
  | some (g, want) => ∃ d, ((ops[g]?).bind (·.dst)) = some d ∧ ((∃ c, ρ d = some (.d (.bool c)) ∧ b = (c == want)) ∨ (ρ d = some (.tup []) ∧ b = false))

def StepOk (P : Program) (G : Gl) (N : Nat) (ops : Array Oper) (r : Rec) (ρ : Nat → Option V) (H : Sto) (used : Nat → Prop) : Prop :=
  (∀ d, r.o.dst = some d → d < N) ∧
  ((guardIs ops ρ r.o true ∧ Opds G ρ r.o.op.operands.toList r.vals ∧ AOp P G r.o r.vals r.fp r.wr r.v ∧ (∀ l o', (l, o') ∈ r.fp → H l = some o') ∧
      (∀ l, l ∈ r.wr.map (·.1) → l ∉ r.fp.map (·.1) → ¬ used l)) ∨
   (guardIs ops ρ r.o false ∧ r.fp = [] ∧ r.wr = [] ∧ r.v = .tup []))

def putT (ρ : Nat → Option V) (d : Option Nat) (v : V) : Nat → Option V :=
  match d with
  | none => ρ
  | some d => fun t => if t = d then some v else ρ t

/-- The states of the canonical run. -/
def RT (ρ : Nat → Option V) : List Rec → Nat → Option V
  | [] => ρ
  | r :: rs => RT (putT ρ r.o.dst r.v) rs
def RH (H : Sto) : List Rec → Sto
  | [] => H
  | r :: rs => RH (H.upd r.wr) rs
def RU (used : Nat → Prop) : List Rec → Nat → Prop
  | [] => used
  | r :: rs => RU (fun l => used l ∨ l ∈ r.wr.map (·.1)) rs

/-- All steps stand. -/
def StepsOk (P : Program) (G : Gl) (N : Nat) (ops : Array Oper) : List Rec → (Nat → Option V) → Sto → (Nat → Prop) → Prop
  | [], _, _, _ => True
  | r :: rs, ρ, H, used => StepOk P G N ops r ρ H used ∧ StepsOk P G N ops rs (putT ρ r.o.dst r.v) (H.upd r.wr) (fun l => used l ∨ l ∈ r.wr.map (·.1))

theorem StepsOk.at {P G N ops} : ∀ {rs : List Rec} {ρ H used} {k : Nat} {r : Rec}, StepsOk P G N ops rs ρ H used → rs[k]? = some r →
    StepOk P G N ops r (RT ρ (rs.take k)) (RH H (rs.take k)) (RU used (rs.take k))
  | [], _, _, _, _, _, _, h => by simp at h
  | x :: rs, ρ, H, used, 0, r, h, hk => by simp at hk; subst hk; exact h.1
  | x :: rs, ρ, H, used, k + 1, r, h, hk => by
    simp at hk
    simpa [RT, RH, RU] using StepsOk.at h.2 hk

def Rec.wt (r : Rec) (t : Nat) : Prop := r.o.dst = some t
def Rec.wl (r : Rec) (l : Nat) : Prop := l ∈ r.wr.map (·.1)
def Rec.rl (r : Rec) (l : Nat) : Prop := l ∈ r.fp.map (·.1)
def Rec.rt (ops : Array Oper) (r : Rec) (t : Nat) : Prop := t ∈ r.o.looksAt ops

theorem RT_same {ρ : Nat → Option V} {t : Nat} : ∀ (rs : List Rec), (∀ r ∈ rs, ¬ r.wt t) → RT ρ rs t = ρ t
  | [], _ => rfl
  | r :: rs, h => by
    simp only [RT]
    rw [RT_same rs (fun r hr => h r (by simp [hr]))]
    have := h r (by simp)
    unfold Rec.wt at this
    cases hd : r.o.dst with
    | none => rfl
    | some d => simp only [putT]; rw [if_neg (fun e => this (by rw [hd, e]))]
theorem RH_same {H : Sto} {l : Nat} : ∀ (rs : List Rec), (∀ r ∈ rs, ¬ r.wl l) → RH H rs l = H l
  | [], _ => rfl
  | r :: rs, h => by
    simp only [RH]
    rw [RH_same rs (fun r hr => h r (by simp [hr]))]
    exact Sto.upd_not H _ _ (h r (by simp))
theorem RT_app (ρ : Nat → Option V) : ∀ (xs ys : List Rec), RT ρ (xs ++ ys) = RT (RT ρ xs) ys
  | [], _ => rfl
  | x :: xs, ys => by simp only [List.cons_append, RT]; exact RT_app _ xs ys
theorem RH_app (H : Sto) : ∀ (xs ys : List Rec), RH H (xs ++ ys) = RH (RH H xs) ys
  | [], _ => rfl
  | x :: xs, ys => by simp only [List.cons_append, RH]; exact RH_app _ xs ys
theorem RU_iff (used : Nat → Prop) (l : Nat) : ∀ (xs : List Rec), RU used xs l ↔ used l ∨ ∃ r ∈ xs, r.wl l
  | [] => by simp [RU]
  | x :: xs => by
    simp only [RU, RU_iff _ l xs, List.mem_cons]
    constructor
    · rintro ((h | h) | ⟨r, h1, h2⟩)
      · exact .inl h
      · exact .inr ⟨x, .inl rfl, h⟩
      · exact .inr ⟨r, .inr h1, h2⟩
    · rintro (h | ⟨r, (rfl | h1), h2⟩)
      · exact .inl (.inl h)
      · exact .inl (.inr h2)
      · exact .inr ⟨r, h1, h2⟩

theorem seg_eq {α : Type} (l : List α) {m n : Nat} (h : m ≤ n) : l.take n = l.take m ++ (l.drop m).take (n - m) := by
  have := List.take_add (l := l) (i := m) (j := n - m)
  rwa [show m + (n - m) = n by omega] at this
theorem mem_seg {α : Type} {l : List α} {m n : Nat} {x : α} (h : x ∈ (l.drop m).take (n - m)) : ∃ k, m ≤ k ∧ k < n ∧ l[k]? = some x := by
  obtain ⟨i, hi⟩ := List.getElem?_of_mem h
  rw [List.getElem?_take] at hi
  split at hi
  · rw [List.getElem?_drop] at hi; exact ⟨m + i, by omega, by omega, hi⟩
  · cases hi
theorem RT_between {ρ : Nat → Option V} {rs : List Rec} {t m n : Nat} (h : ∀ k r, rs[k]? = some r → r.wt t → ¬ (m ≤ k ∧ k < n) ∧ ¬ (n ≤ k ∧ k < m)) : RT ρ (rs.take m) t = RT ρ (rs.take n) t := by
  rcases Nat.le_total m n with hmn | hmn
  · rw [seg_eq rs hmn, RT_app, RT_same ((rs.drop m).take (n - m)) (fun r hr hw => by obtain ⟨k, k1, k2, k3⟩ := mem_seg hr; exact (h k r k3 hw).1 ⟨k1, k2⟩)]
  · rw [seg_eq rs hmn, RT_app, RT_same _ (fun r hr hw => by obtain ⟨k, k1, k2, k3⟩ := mem_seg hr; exact (h k r k3 hw).2 ⟨k1, k2⟩)]
theorem RH_between {H : Sto} {rs : List Rec} {l m n : Nat} (h : ∀ k r, rs[k]? = some r → r.wl l → ¬ (m ≤ k ∧ k < n) ∧ ¬ (n ≤ k ∧ k < m)) : RH H (rs.take m) l = RH H (rs.take n) l := by
  rcases Nat.le_total m n with hmn | hmn
  · rw [seg_eq rs hmn, RH_app, RH_same ((rs.drop m).take (n - m)) (fun r hr hw => by obtain ⟨k, k1, k2, k3⟩ := mem_seg hr; exact (h k r k3 hw).1 ⟨k1, k2⟩)]
  · rw [seg_eq rs hmn, RH_app, RH_same _ (fun r hr hw => by obtain ⟨k, k1, k2, k3⟩ := mem_seg hr; exact (h k r k3 hw).2 ⟨k1, k2⟩)]
theorem take_succ_at {α : Type} {l : List α} {k : Nat} {x : α} (h : l[k]? = some x) : l.take (k + 1) = l.take k ++ [x] := by
  rw [List.take_add_one, h]; rfl

/-- Two steps that may not change places. -/
def Conf (ops : Array Oper) (a b : Rec) : Prop :=
  (∃ t, a.wt t ∧ (b.rt ops t ∨ b.wt t)) ∨ (∃ t, b.wt t ∧ a.rt ops t) ∨ (∃ l, a.wl l ∧ (b.rl l ∨ b.wl l)) ∨ (∃ l, b.wl l ∧ a.rl l)

/-- The state when the steps S have been done. -/
structure RInv (G : Gl) (N : Nat) (ops : Array Oper) (rs : List Rec) (ρ0 : Nat → Option V) (H0 : Sto) (ι0 : Env) (E : Entry) (M0 : Mem) (S : Nat → Prop) (M : Mem) (ι : Env) (H : Sto) (a : Act) (w : World) : Prop where
  inv : Inv E M ι H w
  g : GOk G M
  sz : a.tmps.size = N
  df : a.defers = []
  tm : ∀ t, ∃ m, m ≤ rs.length ∧ (∀ v, RT ρ0 (rs.take m) t = some v → RepV M ι v (a.tmps.getD t undef)) ∧ ∀ k r, rs[k]? = some r → r.wt t → (k < m ↔ S k)
  ob : ∀ l, ∃ m, m ≤ rs.length ∧ H l = RH H0 (rs.take m) l ∧ ∀ k r, rs[k]? = some r → r.wl l → (k < m ↔ S k)
  lab : ∀ l, (∀ k r, rs[k]? = some r → S k → ¬ r.wl l) → ι l = ι0 l
  gr : Grow M0 ι0 M ι

theorem eval_put (a : Act) (d : Option Nat) (v : Value) (x : Operand) (h : ∀ t, d = some t → x ≠ .tmp t) : (a.put d v).eval x = a.eval x := by
  cases d with
  | none => rfl
  | some t =>
    cases x with
    | tmp u =>
      have : t ≠ u := fun e => h t rfl (by rw [e])
      simp only [Act.put, Act.eval]
      rw [Array.getD_eq_getD_getElem?, Array.getD_eq_getD_getElem?, Array.getElem?_setIfInBounds_ne this]
    | _ => rfl

theorem getD_put {a : Act} {d t : Nat} {v : Value} (h : d < a.tmps.size) : (a.put (some d) v).tmps.getD t undef = if t = d then v else a.tmps.getD t undef := by
  simp only [Act.put, Array.getD_eq_getD_getElem?]
  by_cases e : t = d
  · subst e; simp [h]
  · rw [Array.getElem?_setIfInBounds_ne (fun x => e x.symm), if_neg e]

theorem yielded_undef {ops : Array Oper} {tmps : Array Value} {g d : Nat} {vs : Array Value} (hd : ((ops[g]?).bind (·.dst)) = some d) (hv : tmps.getD d undef = .tuple vs) : yielded ops tmps g = none := by
  unfold yielded
  rw [hd]
  simp only [Option.bind_some]
  cases h : tmps[d]? with
  | none => rfl
  | some v =>
    have : v = .tuple vs := by simpa [Array.getD_eq_getD_getElem?, h] using hv
    subst this; rfl
theorem yielded_of {ops : Array Oper} {tmps : Array Value} {g d : Nat} {c : Bool} (hd : ((ops[g]?).bind (·.dst)) = some d) (hv : tmps.getD d undef = .bool c) : yielded ops tmps g = some c := by
  unfold yielded
  rw [hd]
  simp only [Option.bind_some]
  rw [Array.getD_eq_getD_getElem?] at hv
  cases h : tmps[d]? with
  | none => rw [h] at hv; simp [undef] at hv
  | some x => rw [h] at hv; simp at hv; subst hv; rfl

theorem looks_guard {ops : Array Oper} {o : Oper} {g d : Nat} {want : Bool} (hg : o.guard = some (g, want)) (hd : ((ops[g]?).bind (·.dst)) = some d) : d ∈ o.looksAt ops := by
  unfold Oper.looksAt
  rw [hg]
  simp only [List.mem_append]
  right
  cases h : ops[g]? with
  | none => rw [h] at hd; cases hd
  | some x => rw [h] at hd; simp at hd; simp [hd]
theorem looks_tmp {ops : Array Oper} {o : Oper} {t : Nat} (h : Operand.tmp t ∈ o.op.operands.toList) : t ∈ o.looksAt ops := by
  unfold Oper.looksAt
  simp only [List.mem_append, List.mem_filterMap]
  left
  exact ⟨_, h, rfl⟩

theorem Opds.rep {G : Gl} {ρ : Nat → Option V} {M : Mem} {ι : Env} {a : Act} (hg : GOk G M) : ∀ (xs : List Operand) (vs : List V), Opds G ρ xs vs → (∀ t, Operand.tmp t ∈ xs → ∀ v, ρ t = some v → RepV M ι v (a.tmps.getD t undef)) → RepVs M ι vs (xs.map a.eval)
  | [], vs, h, _ => by simp only [Opds] at h; subst h; simp [RepVs]
  | x :: xs, vs, h, ht => by
    obtain ⟨v, r, rfl, h2, h3⟩ := h
    simp only [List.map_cons, RepVs]
    refine ⟨_, _, rfl, ?_, Opds.rep hg xs r h3 (fun t hx => ht t (by simp [hx]))⟩
    cases x with
    | tmp t => exact ht t (by simp) v h2
    | const c => exact constV_rep h2
    | global g =>
      simp only [opd, Option.map_eq_some_iff] at h2
      obtain ⟨cs, e1, rfl⟩ := h2
      simp only [RepV, Act.eval]
      exact ⟨_, rfl, rfl, hg g cs e1⟩
    | func f => simp only [opd, Option.some.injEq] at h2; subst h2; simp [RepV, RepD, Act.eval]

theorem guard_wanted {ops : Array Oper} {ρ : Nat → Option V} {o : Oper} {b : Bool} {M : Mem} {ι : Env} {a : Act} (h : guardIs ops ρ o b) (ht : ∀ t, t ∈ o.looksAt ops → ∀ v, ρ t = some v → RepV M ι v (a.tmps.getD t undef)) :
    Region.wanted o (yielded ops a.tmps) = b := by
  unfold guardIs at h
  unfold Region.wanted
  cases hg : o.guard with
  | none => rw [hg] at h; exact h.symm
  | some gw =>
    obtain ⟨g, want⟩ := gw
    rw [hg] at h
    obtain ⟨d, h1, ⟨c, h2, h3⟩ | ⟨h2, h3⟩⟩ := h
    · have := ht d (looks_guard hg h1) _ h2
      simp only [RepV, RepD] at this
      simp only [yielded_of h1 this, h3]
      cases c <;> cases want <;> rfl
    · have := ht d (looks_guard hg h1) _ h2
      simp only [RepV] at this
      obtain ⟨vs, h4, _⟩ := this
      simp only [yielded_undef h1 h4, h3]
      rfl

theorem RInv.step {P : Program} {G : Gl} {N : Nat} {ops : Array Oper} {rs : List Rec} {ρ0 : Nat → Option V} {H0 : Sto} {ι0 : Env} {E : Entry} {M0 : Mem} {S : Nat → Prop} {M : Mem} {ι : Env} {H : Sto} {a : Act} {w : World}
    (hst : StepsOk P G N ops rs ρ0 H0 (fun l => ι0 l ≠ none)) (h : RInv G N ops rs ρ0 H0 ι0 E M0 S M ι H a w) {i : Nat} {r : Rec} (hi : rs[i]? = some r) (ho : ops[i]? = some r.o) (hS : ¬ S i)
    (hbef : ∀ k x, rs[k]? = some x → k ≠ i → Conf ops x r → (k < i ↔ S k)) {K : Act → World → Prop} {Q : Exit → Act → World → Prop}
    (hK : ∀ M' ι' H' a' w', RInv G N ops rs ρ0 H0 ι0 E M0 (fun k => S k ∨ k = i) M' ι' H' a' w' → K a' w') : wpOp P ops Q i K a w := by
  have hil : i < rs.length := (List.getElem?_eq_some_iff.1 hi).1
  obtain ⟨hd, hs⟩ := hst.at hi
  -- what the step reads is as in the canonical run
  have hrt : ∀ t, r.rt ops t → ∀ v, RT ρ0 (rs.take i) t = some v → RepV M ι v (a.tmps.getD t undef) := fun t ht v hv => by
    obtain ⟨m, m1, m2, m3⟩ := h.tm t
    refine m2 v ?_
    rw [← hv]
    refine RT_between fun k x hk hw => ?_
    have e := m3 k x hk hw
    by_cases hki : k = i
    · subst hki; constructor <;> (intro hc; first | exact hS (e.1 (by omega)) | omega)
    · have := hbef k x hk hki (.inl ⟨t, hw, .inl ht⟩)
      constructor <;> intro hc
      · have := this.1 (by omega); have := e.2 this; omega
      · have := this.2 (e.1 (by omega)); omega
  have hrl : ∀ l, r.rl l → H l = RH H0 (rs.take i) l := fun l hl => by
    obtain ⟨m, m1, m2, m3⟩ := h.ob l
    rw [m2]
    refine RH_between fun k x hk hw => ?_
    have e := m3 k x hk hw
    by_cases hki : k = i
    · subst hki; constructor <;> (intro hc; first | exact hS (e.1 (by omega)) | omega)
    · have := hbef k x hk hki (.inr (.inr (.inl ⟨l, hw, .inl hl⟩)))
      constructor <;> intro hc
      · have := this.1 (by omega); have := e.2 this; omega
      · have := this.2 (e.1 (by omega)); omega
  -- the state behind the step
  have after : ∀ M' ι' w' cv, Grow M ι M' ι' → (∀ l, ¬ r.wl l → ι' l = ι l) → Inv E M' ι' (H.upd r.wr) w' → RepV M' ι' r.v cv →
      RInv G N ops rs ρ0 H0 ι0 E M0 (fun k => S k ∨ k = i) M' ι' (H.upd r.wr) (a.put r.o.dst cv) w' := by
    intro M' ι' w' cv hg hlab hinv hcv
    have hsz : (a.put r.o.dst cv).tmps.size = N := by
      cases r.o.dst <;> simp [Act.put, h.sz]
    refine ⟨hinv, h.g.grow hg.mem, hsz, by cases r.o.dst <;> simp [Act.put, h.df], fun t => ?_, fun l => ?_, fun l hl => ?_, h.gr.trans hg⟩
    · by_cases hw : r.wt t
      · refine ⟨i + 1, by omega, fun v hv => ?_, fun k x hk hx => ?_⟩
        · rw [take_succ_at hi, RT_app] at hv
          have hdt : r.o.dst = some t := hw
          simp only [RT, putT, hdt, if_true, Option.some.injEq] at hv
          subst hv
          have := getD_put (a := a) (d := t) (t := t) (v := cv) (by rw [h.sz]; exact hd t hdt)
          simp only [if_true] at this
          rw [hdt, this]
          exact hcv
        · by_cases hki : k = i
          · subst hki; simp
          · have := hbef k x hk hki (.inl ⟨t, hx, .inr hw⟩)
            simp only [hki, or_false]
            rw [← this]; omega
      · obtain ⟨m, m1, m2, m3⟩ := h.tm t
        refine ⟨m, m1, fun v hv => ?_, fun k x hk hx => ?_⟩
        · have := RepV.grow hg v _ (m2 v hv)
          cases hdt : r.o.dst with
          | none => rw [← hdt]; simpa [hdt, Act.put] using this
          | some d =>
            rw [getD_put (by rw [h.sz]; exact hd d hdt), if_neg (fun e => hw (by rw [e]; exact hdt))]
            exact this
        · have : k ≠ i := fun e => by subst e; rw [hi] at hk; injection hk with hk; subst hk; exact hw hx
          simp only [this, or_false]
          exact m3 k x hk hx
    · by_cases hw : r.wl l
      · refine ⟨i + 1, by omega, ?_, fun k x hk hx => ?_⟩
        · rw [take_succ_at hi, RH_app]
          exact Sto.upd_in _ _ _ _ hw
        · by_cases hki : k = i
          · subst hki; simp
          · have := hbef k x hk hki (.inr (.inr (.inl ⟨l, hx, .inr hw⟩)))
            simp only [hki, or_false]
            rw [← this]; omega
      · obtain ⟨m, m1, m2, m3⟩ := h.ob l
        refine ⟨m, m1, by rw [Sto.upd_not _ _ _ hw]; exact m2, fun k x hk hx => ?_⟩
        have : k ≠ i := fun e => by subst e; rw [hi] at hk; injection hk with hk; subst hk; exact hw hx
        simp only [this, or_false]
        exact m3 k x hk hx
    · rw [hlab l (hl i r hi (.inr rfl))]
      exact h.lab l fun k x hk hx => hl k x hk (.inl hx)
  unfold wpOp
  rw [ho]
  simp only []
  rcases hs with ⟨hgd, hops, hop, hfp, hfr⟩ | ⟨hgd, e1, e2, e3⟩
  · rw [guard_wanted hgd (fun t ht v hv => hrt t ht v hv)]
    simp only [if_true]
    left
    refine hop E M ι H w a K Q h.inv h.g (fun l o' hl => ?_) (hops.rep h.g _ _ (fun t ht v hv => hrt t (looks_tmp ht) v hv)) (fun l hl hnl => ?_) (fun M' ι' w' cv k1 k2 k3 k4 => hK M' ι' _ _ w' (after M' ι' w' cv k1 k2 k3 k4))
    · rw [hrl l (List.mem_map.2 ⟨_, hl, rfl⟩)]
      exact hfp l o' hl
    · have hu := hfr l hl hnl
      rw [RU_iff] at hu
      simp only [not_or, not_exists, not_and, Classical.not_not] at hu
      rw [h.lab l fun k x hk hx hw => ?_]
      · exact hu.1
      · by_cases hki : k = i
        · subst hki; exact hS hx
        · have := hbef k x hk hki (.inr (.inr (.inl ⟨l, hw, .inr hl⟩)))
          have hlt := this.2 hx
          refine hu.2 x ?_ hw
          rw [List.mem_iff_getElem?]
          exact ⟨k, by rw [List.getElem?_take, if_pos hlt]; exact hk⟩
  · rw [guard_wanted hgd (fun t ht v hv => hrt t ht v hv)]
    simp only [Bool.false_eq_true, if_false]
    have hH : H.upd r.wr = H := by rw [e2]; rfl
    refine hK M ι _ _ w (after M ι w undef (Grow.refl _ _) (fun _ _ => rfl) (by rw [hH]; exact h.inv) (by rw [e3]; simp only [RepV]; exact ⟨[], rfl, by simp [RepVs]⟩))

/-- At the end all is as in the canonical run. -/
theorem RInv.final {G : Gl} {N : Nat} {ops : Array Oper} {rs : List Rec} {ρ0 : Nat → Option V} {H0 : Sto} {ι0 : Env} {E : Entry} {M0 : Mem} {S : Nat → Prop} {M : Mem} {ι : Env} {H : Sto} {a : Act} {w : World}
    (h : RInv G N ops rs ρ0 H0 ι0 E M0 S M ι H a w) (hS : ∀ k, k < rs.length → S k) :
    Inv E M ι (RH H0 rs) w ∧ (∀ t v, RT ρ0 rs t = some v → RepV M ι v (a.tmps.getD t undef)) := by
  have hH : H = RH H0 rs := funext fun l => by
    obtain ⟨m, m1, m2, m3⟩ := h.ob l
    rw [m2]
    conv => rhs; rw [← List.take_length (l := rs)]
    refine RH_between fun k x hk hw => ?_
    have hl := (List.getElem?_eq_some_iff.1 hk).1
    have := (m3 k x hk hw).2 (hS k hl)
    constructor <;> omega
  refine ⟨hH ▸ h.inv, fun t v hv => ?_⟩
  obtain ⟨m, m1, m2, m3⟩ := h.tm t
  refine m2 v ?_
  rw [← hv]
  conv => rhs; rw [← List.take_length (l := rs)]
  refine RT_between fun k x hk hw => ?_
  have hl := (List.getElem?_eq_some_iff.1 hk).1
  have := (m3 k x hk hw).2 (hS k hl)
  constructor <;> omega

theorem RInv.start {G : Gl} {N : Nat} {ops : Array Oper} {rs : List Rec} {ρ0 : Nat → Option V} {H0 : Sto} {ι0 : Env} {E : Entry} {M : Mem} {a : Act} {w : World} (hi : Inv E M ι0 H0 w) (hg : GOk G M) (hsz : a.tmps.size = N) (hd : a.defers = [])
    (ht : ∀ t v, ρ0 t = some v → RepV M ι0 v (a.tmps.getD t undef)) : RInv G N ops rs ρ0 H0 ι0 E M (fun _ => False) M ι0 H0 a w :=
  ⟨hi, hg, hsz, hd, fun t => ⟨0, Nat.zero_le _, fun v hv => ht t v (by simpa [RT] using hv), fun k r _ _ => by simp⟩, fun l => ⟨0, Nat.zero_le _, by simp [RH], fun k r _ _ => by simp⟩, fun _ _ => rfl, Grow.refl _ _⟩

/-- In the order of the text. -/
theorem region_text {P : Program} {G : Gl} {N : Nat} {ops : Array Oper} {rs : List Rec} {ρ0 : Nat → Option V} {H0 : Sto} {ι0 : Env} {E : Entry} {M0 : Mem} {Q : Exit → Act → World → Prop}
    (hst : StepsOk P G N ops rs ρ0 H0 (fun l => ι0 l ≠ none)) (ho : rs.map (·.o) = ops.toList)
    (hQ : ∀ M ι H a w, RInv G N ops rs ρ0 H0 ι0 E M0 (fun k => k < rs.length) M ι H a w → Q .normal a w) :
    ∀ (d i : Nat), i + d = rs.length → ∀ M ι H a w, RInv G N ops rs ρ0 H0 ι0 E M0 (fun k => k < i) M ι H a w → wpOps P ops Q (List.range' i d) a w := by
  intro d
  induction d with
  | zero => intro i hi M ι H a w h; simp only [List.range'_zero, wpOps]; exact hQ M ι H a w (by rw [← hi]; simpa using h)
  | succ d ih =>
    intro i hi M ι H a w h
    rw [List.range'_succ, wpOps_cons]
    have hlt : i < rs.length := by omega
    have hr : rs[i]? = some rs[i] := List.getElem?_eq_getElem hlt
    have hoi : ops[i]? = some rs[i].o := by
      rw [← Array.getElem?_toList, ← ho, List.getElem?_map, hr]; rfl
    refine h.step hst hr hoi (by omega) (fun k x _ hki _ => Iff.rfl) (fun M' ι' H' a' w' h' => ?_)
    refine ih (i + 1) (by omega) M' ι' H' a' w' ?_
    have : (fun k => k < i ∨ k = i) = fun k => k < i + 1 := funext fun k => propext (by omega)
    rwa [this] at h'

/-- One operation hangs on another one, by the edges that always bind. -/
inductive Anc (ops : Array Oper) : Nat → Nat → Prop
  | edge {j k o e} : ops[k]? = some o → e ∈ o.after.toList → Region.binds .any e = true → e.on = j → Anc ops j k
  | trans {i j k} : Anc ops i j → Anc ops j k → Anc ops i k

def hangs (ops : Array Oper) : Nat → Nat → Nat → Bool
  | 0, _, _ => false
  | f + 1, j, k => match ops[k]? with
    | none => false
    | some o => o.after.toList.any (fun e => Region.binds .any e && e.on == j) || o.after.toList.any (fun e => Region.binds .any e && hangs ops f j e.on)
theorem hangs_anc {ops : Array Oper} : ∀ (f j k : Nat), hangs ops f j k = true → Anc ops j k
  | 0, _, _, h => by cases h
  | f + 1, j, k, h => by
    unfold hangs at h
    split at h
    · cases h
    · rename_i o ho
      simp only [Bool.or_eq_true, List.any_eq_true, Bool.and_eq_true, beq_iff_eq] at h
      rcases h with ⟨e, h1, h2, h3⟩ | ⟨e, h1, h2, h3⟩
      · exact .edge ho h1 h2 h3
      · exact .trans (hangs_anc f j e.on h3) (.edge ho h1 h2 rfl)

/-- The footprint of a step, as numbers. -/
structure FP where
  rt : List Nat
  wt : Option Nat
  rl : List Nat
  wl : List Nat
def Rec.foot (ops : Array Oper) (r : Rec) : FP := ⟨r.o.looksAt ops, r.o.dst, r.fp.map (·.1), r.wr.map (·.1)⟩
def hit (xs ys : List Nat) : Bool := xs.any fun x => ys.any fun y => Nat.beq x y
theorem hit_of {xs ys : List Nat} {x : Nat} (h : x ∈ xs) (k : x ∈ ys) : hit xs ys = true := by
  simp only [hit, List.any_eq_true]
  exact ⟨x, h, x, k, Nat.beq_refl x⟩
def FP.conf (a b : FP) : Bool :=
  hit a.wt.toList (b.rt ++ b.wt.toList) || hit b.wt.toList a.rt || hit a.wl (b.rl ++ b.wl) || hit b.wl a.rl
theorem FP.conf_of {ops : Array Oper} {a b : Rec} (h : Conf ops a b) : (a.foot ops).conf (b.foot ops) = true := by
  simp only [FP.conf, Rec.foot, Bool.or_eq_true]
  rcases h with ⟨t, h1, h2⟩ | ⟨t, h1, h2⟩ | ⟨l, h1, h2⟩ | ⟨l, h1, h2⟩
  · left; left; left
    refine hit_of (x := t) (by simp [Rec.wt] at h1; simp [h1]) ?_
    rcases h2 with h2 | h2
    · simp; exact .inl h2
    · simp [Rec.wt] at h2; simp [h2]
  · left; left; right
    exact hit_of (x := t) (by simp [Rec.wt] at h1; simp [h1]) h2
  · left; right
    refine hit_of (x := l) h1 ?_
    rcases h2 with h2 | h2 <;> simp only [List.mem_append]
    · exact .inl h2
    · exact .inr h2
  · right; exact hit_of (x := l) h1 h2

def chkOne (ops : Array Oper) (k : Nat) (b : FP) : Nat → List FP → Bool
  | _, [] => true
  | j, a :: r => (!(a.conf b || b.conf a) || hangs ops 6 j k) && chkOne ops k b (j + 1) r
def chkAll (ops : Array Oper) : Nat → List FP → List FP → Bool
  | _, _, [] => true
  | k, prev, b :: r => chkOne ops k b 0 prev && chkAll ops (k + 1) (prev ++ [b]) r
def edgesOk : Nat → List Oper → Bool
  | _, [] => true
  | k, o :: r => o.after.toList.all (fun e => !Region.binds .any e || Nat.blt e.on k) && edgesOk (k + 1) r
/-- Whatever may not change places is bound to its order. -/
def chk (ops : Array Oper) (fs : List FP) : Bool := edgesOk 0 ops.toList && chkAll ops 0 [] fs

theorem chkOne_at {ops : Array Oper} {k : Nat} {b : FP} : ∀ {j : Nat} {prev : List FP}, chkOne ops k b j prev = true → ∀ i a, prev[i]? = some a → (a.conf b || b.conf a) = true → Anc ops (j + i) k
  | _, [], _, i, a, h, _ => by simp at h
  | j, x :: r, h, i, a, hi, hc => by
    simp only [chkOne, Bool.and_eq_true, Bool.or_eq_true, Bool.not_eq_true'] at h
    cases i with
    | zero =>
      simp at hi; subst hi
      rcases h.1 with h1 | h1
      · rw [hc] at h1; cases h1
      · exact hangs_anc _ _ _ h1
    | succ i =>
      simp at hi
      have := chkOne_at h.2 i a hi hc
      rwa [show j + 1 + i = j + (i + 1) by omega] at this
theorem chkAll_at {ops : Array Oper} : ∀ {fs : List FP} {k : Nat} {prev : List FP}, prev.length = k → chkAll ops k prev fs = true → ∀ i j a b, i < j → k ≤ j → (prev ++ fs)[i]? = some a → (prev ++ fs)[j]? = some b → (a.conf b || b.conf a) = true → Anc ops i j
  | [], k, prev, hk, _, i, j, a, b, hij, hkj, _, hb, _ => by
    simp at hb
    have := (List.getElem?_eq_some_iff.1 hb).1; omega
  | f :: fs, k, prev, hk, h, i, j, a, b, hij, hkj, ha, hb, hc => by
    simp only [chkAll, Bool.and_eq_true] at h
    by_cases hj : j = k
    · subst hj
      rw [List.getElem?_append_right (by omega)] at hb
      simp [hk] at hb; subst hb
      rw [List.getElem?_append_left (by omega)] at ha
      simpa using chkOne_at h.1 i a ha hc
    · refine chkAll_at (fs := fs) (k := k + 1) (prev := prev ++ [f]) (by simp [hk]) h.2 i j a b hij (by omega) ?_ ?_ hc
      · simpa using ha
      · simpa using hb
theorem edgesOk_at : ∀ {os : List Oper} {k : Nat}, edgesOk k os = true → ∀ i o, os[i]? = some o → ∀ e ∈ o.after.toList, Region.binds .any e = true → e.on < k + i
  | [], _, _, i, o, h, _, _, _ => by simp at h
  | x :: os, k, h, i, o, hi, e, he, hb => by
    simp only [edgesOk, Bool.and_eq_true, List.all_eq_true, Bool.or_eq_true, Bool.not_eq_true'] at h
    cases i with
    | zero =>
      simp at hi; subst hi
      rcases h.1 e he with h1 | h1
      · rw [hb] at h1; cases h1
      · have : e.on < k := by simpa [Nat.blt_eq] using h1
        omega
    | succ i =>
      simp at hi
      have := edgesOk_at h.2 i o hi e he hb
      omega

/-- In whatever order. -/
theorem region_any {P : Program} {G : Gl} {N : Nat} {ops : Array Oper} {rs : List Rec} {ρ0 : Nat → Option V} {H0 : Sto} {ι0 : Env} {E : Entry} {M0 : Mem} {Q : Exit → Act → World → Prop}
    (hst : StepsOk P G N ops rs ρ0 H0 (fun l => ι0 l ≠ none)) (ho : rs.map (·.o) = ops.toList) (hc : chk ops (rs.map (·.foot ops)) = true)
    (hQ : ∀ M ι H a w, RInv G N ops rs ρ0 H0 ι0 E M0 (fun _ => True) M ι H a w → Q .normal a w) :
    ∀ (fuel : Nat) (listed : Array Bool), listed.size = ops.size → ((List.range ops.size).filter fun i => !listed.getD i true).length ≤ fuel →
      (∀ i o e, ops[i]? = some o → listed.getD i false = true → e ∈ o.after.toList → Region.binds .any e = true → listed.getD e.on false = true) →
      ∀ M ι H a w, RInv G N ops rs ρ0 H0 ι0 E M0 (fun k => listed.getD k false = true) M ι H a w → wpAny P .any ops Q fuel listed a w := by
  have hlen : rs.length = ops.size := by rw [← Array.length_toList, ← ho, List.length_map]
  simp only [chk, Bool.and_eq_true] at hc
  obtain ⟨hc1, hc2⟩ := hc
  have hedge : ∀ i o e, ops[i]? = some o → e ∈ o.after.toList → Region.binds .any e = true → e.on < i := fun i o e h1 h2 h3 => by
    have := edgesOk_at hc1 i o (by rw [Array.getElem?_toList]; exact h1) e h2 h3; omega
  have hconf : ∀ i j a b, i < j → rs[i]? = some a → rs[j]? = some b → (Conf ops a b ∨ Conf ops b a) → Anc ops i j := fun i j a b hij ha hb hcf => by
    refine chkAll_at (prev := []) rfl hc2 i j (a.foot ops) (b.foot ops) hij (Nat.zero_le _) (by simp [ha]) (by simp [hb]) ?_
    rw [Bool.or_eq_true]
    rcases hcf with h | h
    · exact .inl (FP.conf_of h)
    · exact .inr (FP.conf_of h)
  -- nothing is ready: all is done
  have hdone : ∀ (listed : Array Bool), listed.size = ops.size → Region.ready .any ops listed = [] → ∀ i, i < ops.size → listed.getD i false = true := by
    intro listed hsz hr i
    induction i using Nat.strongRecOn with
    | _ i ih =>
      intro hi
      cases hl : listed.getD i false with
      | true => rfl
      | false =>
        exfalso
        have : i ∈ Region.ready .any ops listed := by
          unfold Region.ready
          simp only [List.mem_filter, List.mem_range, Bool.and_eq_true, Bool.not_eq_true']
          refine ⟨hi, ?_, ?_⟩
          · have hs : i < listed.size := by omega
            simp only [Array.getD_eq_getD_getElem?, Array.getElem?_eq_getElem hs, Option.getD_some] at hl ⊢
            exact hl
          · rw [Array.getElem?_eq_getElem hi]
            simp only [Option.map_some, Option.getD_some, Array.all_eq_true_iff_forall_mem]
            intro e he
            by_cases hb : Region.binds .any e = true
            · have hlt := hedge i ops[i] e (Array.getElem?_eq_getElem hi) (by simpa using he) hb
              have := ih e.on hlt (by omega)
              simp [this]
            · simp [hb]
        rw [hr] at this; cases this
  intro fuel
  induction fuel with
  | zero =>
    intro listed hsz hcnt hdc M ι H a w h
    have hall : ∀ i, i < ops.size → listed.getD i true = true := fun i hi => by
      cases hl : listed.getD i true with
      | true => rfl
      | false =>
        have : i ∈ (List.range ops.size).filter fun i => !listed.getD i true := List.mem_filter.2 ⟨List.mem_range.2 hi, by rw [hl]; rfl⟩
        have h0 : (List.range ops.size).filter (fun i => !listed.getD i true) = [] := List.eq_nil_of_length_eq_zero (by omega)
        rw [h0] at this; cases this
    have hr : Region.ready .any ops listed = [] := by
      unfold Region.ready
      rw [List.filter_eq_nil_iff]
      intro i hi
      simp only [List.mem_range] at hi
      simp [hall i hi]
    refine ⟨hr, hQ M ι H a w ?_⟩
    have hfin := hdone listed hsz hr
    refine ⟨h.inv, h.g, h.sz, h.df, fun t => ?_, fun l => ?_, fun l hl => h.lab l fun k x hk _ => hl k x hk trivial, h.gr⟩
    · obtain ⟨m, m1, m2, m3⟩ := h.tm t
      exact ⟨m, m1, m2, fun k r hk hw => by
        have := (List.getElem?_eq_some_iff.1 hk).1
        have := m3 k r hk hw
        simp only [hfin k (by omega)] at this
        exact this⟩
    · obtain ⟨m, m1, m2, m3⟩ := h.ob l
      exact ⟨m, m1, m2, fun k r hk hw => by
        have := (List.getElem?_eq_some_iff.1 hk).1
        have := m3 k r hk hw
        simp only [hfin k (by omega)] at this
        exact this⟩
  | succ fuel ih =>
    intro listed hsz hcnt hdc M ι H a w h
    refine ⟨fun hr => hQ M ι H a w ?_, fun i hi => ?_⟩
    · have hfin := hdone listed hsz hr
      refine ⟨h.inv, h.g, h.sz, h.df, fun t => ?_, fun l => ?_, fun l hl => h.lab l fun k x hk _ => hl k x hk trivial, h.gr⟩
      · obtain ⟨m, m1, m2, m3⟩ := h.tm t
        exact ⟨m, m1, m2, fun k r hk hw => by
          have := (List.getElem?_eq_some_iff.1 hk).1
          have := m3 k r hk hw
          simp only [hfin k (by omega)] at this
          exact this⟩
      · obtain ⟨m, m1, m2, m3⟩ := h.ob l
        exact ⟨m, m1, m2, fun k r hk hw => by
          have := (List.getElem?_eq_some_iff.1 hk).1
          have := m3 k r hk hw
          simp only [hfin k (by omega)] at this
          exact this⟩
    · unfold Region.ready at hi
      simp only [List.mem_filter, List.mem_range, Bool.and_eq_true, Bool.not_eq_true'] at hi
      obtain ⟨hin, hun, hall⟩ := hi
      have hlt : i < listed.size := by omega
      have hun' : listed.getD i false = false := by
        simp only [Array.getD_eq_getD_getElem?, Array.getElem?_eq_getElem hlt, Option.getD_some] at hun ⊢; exact hun
      have hri : i < rs.length := by omega
      have hr : rs[i]? = some rs[i] := List.getElem?_eq_getElem hri
      have hoi : ops[i]? = some rs[i].o := by
        rw [← Array.getElem?_toList, ← ho, List.getElem?_map, hr]; rfl
      rw [hoi] at hall
      simp only [Option.map_some, Option.getD_some, Array.all_eq_true_iff_forall_mem] at hall
      have hedges : ∀ e ∈ rs[i].o.after.toList, Region.binds .any e = true → listed.getD e.on false = true := fun e he hb => by
        have := hall e (by simpa using he)
        simpa [hb] using this
      -- what is listed is closed downwards
      have hancl : ∀ j k, Anc ops j k → listed.getD k false = true → listed.getD j false = true := by
        intro j k hjk
        induction hjk with
        | edge h1 h2 h3 h4 => intro hk; subst h4; exact hdc _ _ _ h1 hk h2 h3
        | trans _ _ ih1 ih2 => intro hk; exact ih1 (ih2 hk)
      have hanc : ∀ j k, Anc ops j k → k = i → listed.getD j false = true := by
        intro j k hjk
        induction hjk with
        | edge h1 h2 h3 h4 =>
          intro hk; subst hk; subst h4
          rw [hoi] at h1; injection h1 with h1; subst h1
          exact hedges _ h2 h3
        | trans h1 _ _ ih2 => intro hk; exact hancl _ _ h1 (ih2 hk)
      refine h.step hst hr hoi (by rw [hun']; simp) (fun k x hk hki hcf => ?_) (fun M' ι' H' a' w' h' => ?_)
      · constructor
        · intro hlt'
          exact hanc k i (hconf k i x rs[i] hlt' hk hr (.inl hcf)) rfl
        · intro hl
          rcases Nat.lt_or_ge k i with h1 | h1
          · exact h1
          · exfalso
            have := hancl i k (hconf i k rs[i] x (by omega) hr hk (.inr hcf)) hl
            rw [hun'] at this; cases this
      · have hget : ∀ k d, (listed.setIfInBounds i true).getD k d = if k = i then true else listed.getD k d := fun k d => by
          simp only [Array.getD_eq_getD_getElem?]
          by_cases e : k = i
          · subst e; simp [hlt]
          · rw [Array.getElem?_setIfInBounds_ne (fun x => e x.symm), if_neg e]
        refine ih (listed.setIfInBounds i true) (by simp [hsz]) ?_ ?_ M' ι' H' a' w' ?_
        · have : ((List.range ops.size).filter fun k => !(listed.setIfInBounds i true).getD k true).length < ((List.range ops.size).filter fun k => !listed.getD k true).length := by
            have hsub : ((List.range ops.size).filter fun k => !(listed.setIfInBounds i true).getD k true) = ((List.range ops.size).filter fun k => !listed.getD k true).filter (fun k => decide (k ≠ i)) := by
              rw [List.filter_filter]
              refine List.filter_congr fun k _ => ?_
              rw [hget]
              by_cases e : k = i <;> simp [e]
            rw [hsub]
            refine Nat.lt_of_le_of_ne (List.length_filter_le _ _) fun e => ?_
            have := List.length_filter_eq_length_iff.1 e i (List.mem_filter.2 ⟨List.mem_range.2 hin, by rw [hun]; rfl⟩)
            simp at this
          omega
        · intro k o e ho' hk he hb
          rw [hget] at hk ⊢
          by_cases hki : k = i
          · subst hki
            rw [hoi] at ho'; injection ho' with ho'; subst ho'
            split
            · rfl
            · exact hedges e he hb
          · rw [if_neg hki] at hk
            split
            · rfl
            · exact hdc k o e ho' hk he hb
        · have : (fun k => listed.getD k false = true ∨ k = i) = fun k => (listed.setIfInBounds i true).getD k false = true := funext fun k => propext (by
            rw [hget]; by_cases e : k = i <;> simp [e])
          rwa [this] at h'
end Go.AM

/-
  The logic of walks over the abstract store: code, calls, function bodies.
  Contracts: what a call makes of the objects that are handed to it; a body meets its contract; a call uses one.
-/
import Derived.Test.YtdbgmmeenljnoaaGreatDoorAmA
set_option linter.unusedVariables false
set_option linter.unusedSimpArgs false
namespace Go.AM
open Go Go.RowKit

/-- The abstract state: temporaries, objects, the labels that are in use. -/
structure A where
  ρ : List (Nat × V)
  σ : List (Nat × Option O)
  ls : List Nat

def lookO (σ : List (Nat × Option O)) (l : Nat) : Option O :=
  match look σ l with
  | some o => o
  | none => none

theorem lookO_upd (σ : List (Nat × Option O)) : ∀ (wr : List (Nat × Option O)), (fun l => lookO (wr ++ σ) l) = Sto.upd (lookO σ) wr
  | [] => rfl
  | (k, o) :: r => funext fun l => by
    have ih := congrFun (lookO_upd σ r) l
    simp only [List.cons_append, Sto.upd]
    simp only [lookO] at ih ⊢
    rw [look_cons]
    by_cases e : l = k
    · subst e; simp
    · rw [if_neg (fun x => e x.symm), if_neg e]; exact ih
theorem look_put (ρ : List (Nat × V)) (d : Nat) (v : V) : (fun t => look ((d, v) :: ρ) t) = putT (look ρ) (some d) v := funext fun t => by
  simp only [putT, look_cons]
  by_cases e : t = d
  · subst e; simp
  · rw [if_neg (fun x => e x.symm), if_neg e]

/-- Where the walk of a body began, and the labels that its caller knows. -/
structure Ctx where
  G : Gl
  N : Nat
  E : Entry
  ι0 : Env
  keep : List Nat

structure Sat (C : Ctx) (M : Mem) (ι : Env) (A : A) (a : Act) (w : World) : Prop where
  inv : Inv C.E M ι (lookO A.σ) w
  g : GOk C.G M
  tm : ∀ t v, look A.ρ t = some v → RepV M ι v (a.tmps.getD t undef)
  lab : ∀ l, ι l ≠ none → l ∈ A.ls
  sz : a.tmps.size = C.N
  df : a.defers = []
  kept : ∀ l ∈ C.keep, ∀ bd, C.ι0 l = some bd → ∃ bd', ι l = some bd' ∧ (bd' = bd ∨ (bd.tag = .row ∧ bd'.tag = .row ∧ bd.n < bd'.n))

/-- The code, from a state, ends as Q says. -/
def AC (P : Program) (C : Ctx) (c : Code) (A : A) (Q : Exit → AM.A → Prop) : Prop :=
  ∀ M ι a w, Sat C M ι A a w → c.wp P (fun ex a' w' => ∃ A' M' ι', Q ex A' ∧ Sat C M' ι' A' a' w') a w

def thenQ (K : A → Prop) (Q : Exit → A → Prop) : Exit → A → Prop
  | .normal, x => K x
  | e, x => Q e x

section rules
variable {P : Program} {C : Ctx} {st : A} {Q : Exit → A → Prop}
theorem ac_mono {c : Code} {Q' : Exit → A → Prop} (h : AC P C c st Q) (hq : ∀ e x, Q e x → Q' e x) : AC P C c st Q' :=
  fun M ι a w hs => wp_mono (h M ι a w hs) fun e a w ⟨A', M', ι', q, s⟩ => ⟨A', M', ι', hq _ _ q, s⟩
theorem ac_skip (h : Q .normal st) : AC P C .skip st Q := fun M ι a w hs => wp_skip ⟨st, M, ι, h, hs⟩
theorem ac_ret (h : Q .ret st) : AC P C .ret st Q := fun M ι a w hs => wp_ret ⟨st, M, ι, h, hs⟩
theorem ac_exit {id : Nat} (h : Q (.exit id) st) : AC P C (.exit id) st Q := fun M ι a w hs => wp_exit ⟨st, M, ι, h, hs⟩
theorem ac_seq {x y : Code} (h : AC P C x st (thenQ (fun s => AC P C y s Q) Q)) : AC P C (.seq x y) st Q := by
  intro M ι a w hs
  refine wp_seq (wp_mono (h M ι a w hs) fun e a' w' ⟨A', M', ι', q, s⟩ => ?_)
  cases e with
  | normal => exact q M' ι' a' w' s
  | _ => exact ⟨A', M', ι', q, s⟩
theorem ac_cond {c : Operand} {x y : Code} {b : Bool} (hc : opd C.G (look st.ρ) c = some (.d (.bool b))) (ht : b = true → AC P C x st Q) (hf : b = false → AC P C y st Q) : AC P C (.cond c x y) st Q := by
  intro M ι a w hs
  have hr := Opds.rep (a := a) (M := M) (ι := ι) hs.g [c] [.d (.bool b)] ⟨_, _, rfl, hc, rfl⟩ (fun t _ v hv => hs.tm t v hv)
  simp only [List.map_cons, List.map_nil, RepVs, RepV, RepD] at hr
  obtain ⟨v, r, h1, h2, _⟩ := hr
  have hb : a.eval c = .bool b := by rw [← h2]; injection h1
  exact wp_cond_split hb (fun e => ht e M ι a w hs) (fun e => hf e M ι a w hs)
def blockQ (id : Nat) (Q : Exit → A → Prop) : Exit → A → Prop
  | .exit i, x => if i = id then Q .normal x else Q (.exit i) x
  | e, x => Q e x
theorem ac_block {id : Nat} {c : Code} (h : AC P C c st (blockQ id Q)) : AC P C (.block id c) st Q := by
  intro M ι a w hs
  refine wp_block (wp_mono (h M ι a w hs) fun e a' w' ⟨A', M', ι', q, s⟩ => ?_)
  cases e with
  | exit i =>
    simp only [blockQ] at q
    simp only [Exit.inBlock]
    split
    · rename_i e; rw [if_pos e] at q; exact ⟨A', M', ι', q, s⟩
    · rename_i e; rw [if_neg e] at q; exact ⟨A', M', ι', q, s⟩
  | _ => exact ⟨A', M', ι', q, s⟩

/-- A state says less than another one. -/
def Weak (C : Ctx) (x y : A) : Prop := ∀ M ι a w, Sat C M ι x a w → ∃ M' ι', Sat C M' ι' y a w
theorem Weak.refl (x : A) : Weak C x x := fun M ι a w h => ⟨M, ι, h⟩
theorem Weak.trans {x y z : A} (h : Weak C x y) (k : Weak C y z) : Weak C x z := fun M ι a w hs => by
  obtain ⟨M', ι', h'⟩ := h M ι a w hs
  exact k M' ι' a w h'
theorem ac_weak {c : Code} {x : A} (h : Weak C st x) (k : AC P C c x Q) : AC P C c st Q := fun M ι a w hs => by
  obtain ⟨M', ι', h'⟩ := h M ι a w hs
  exact k M' ι' a w h'
/-- What ends in a state that says more. -/
theorem ac_post {c : Code} (h : AC P C c st (fun e x => ∃ y, Weak C x y ∧ Q e y)) : AC P C c st Q := fun M ι a w hs => wp_mono (h M ι a w hs) fun e a' w' ⟨A', M', ι', ⟨y, hy, q⟩, s⟩ => by
  obtain ⟨M2, ι2, s2⟩ := hy M' ι' a' w' s
  exact ⟨y, M2, ι2, q, s2⟩

theorem ac_loop {c : Code} {α : Type} (I : α → A) (μ : α → Nat) (x0 : α) (h0 : Weak C st (I x0))
    (h : ∀ x, AC P C c (I x) (thenQ (fun s => ∃ y, μ y < μ x ∧ Weak C s (I y)) Q)) : AC P C (.loop c) st Q := by
  refine ac_weak h0 fun M ι a w hs => ?_
  -- the relation is over the act and the world: the index and what is known are found again
  have key : ∀ n x, μ x = n → ∀ M ι a w, Sat C M ι (I x) a w → (Code.loop c).wp P (fun ex a' w' => ∃ A' M' ι', Q ex A' ∧ Sat C M' ι' A' a' w') a w := by
    intro n x hx M ι a w hs
    refine wp_loop (fun a' w' => ∃ y M' ι', Sat C M' ι' (I y) a' w') (fun a' w' => by
      classical exact if h : ∃ n y M' ι', Sat C M' ι' (I y) a' w' ∧ μ y = n then Classical.choose (p := fun n => (∃ y M' ι', Sat C M' ι' (I y) a' w' ∧ μ y = n) ∧ ∀ m, (∃ y M' ι', Sat C M' ι' (I y) a' w' ∧ μ y = m) → n ≤ m) (by
        obtain ⟨n0, hn0⟩ := h
        induction n0 using Nat.strongRecOn with
        | _ k ih =>
          by_cases hex : ∃ m, m < k ∧ ∃ y M' ι', Sat C M' ι' (I y) a' w' ∧ μ y = m
          · obtain ⟨m, hm, hy⟩ := hex; exact ih m hm hy
          · exact ⟨k, hn0, fun m hm => Nat.le_of_not_lt fun hlt => hex ⟨m, hlt, hm⟩⟩) else 0) ⟨x, M, ι, hs⟩ ?_
    intro a1 w1 hI
    have hex : ∃ n y M' ι', Sat C M' ι' (I y) a1 w1 ∧ μ y = n := by
      obtain ⟨y, M', ι', hy⟩ := hI; exact ⟨_, y, M', ι', hy, rfl⟩
    -- the least index
    simp only [hex, dif_pos]
    generalize hch : Classical.choose (p := fun n => (∃ y M' ι', Sat C M' ι' (I y) a1 w1 ∧ μ y = n) ∧ ∀ m, (∃ y M' ι', Sat C M' ι' (I y) a1 w1 ∧ μ y = m) → n ≤ m) _ = n1
    have hspec : (∃ y M' ι', Sat C M' ι' (I y) a1 w1 ∧ μ y = n1) ∧ ∀ m, (∃ y M' ι', Sat C M' ι' (I y) a1 w1 ∧ μ y = m) → n1 ≤ m := by
      rw [← hch]; exact Classical.choose_spec (p := fun n => (∃ y M' ι', Sat C M' ι' (I y) a1 w1 ∧ μ y = n) ∧ ∀ m, (∃ y M' ι', Sat C M' ι' (I y) a1 w1 ∧ μ y = m) → n ≤ m) _
    obtain ⟨⟨y, M1, ι1, hy, rfl⟩, _⟩ := hspec
    refine wp_mono (h y M1 ι1 a1 w1 hy) fun e a2 w2 ⟨A', M2, ι2, q, s⟩ => ?_
    cases e with
    | normal =>
      obtain ⟨z, hz, hw⟩ := q
      obtain ⟨M3, ι3, s3⟩ := hw M2 ι2 a2 w2 s
      refine ⟨⟨z, M3, ι3, s3⟩, ?_⟩
      have hex2 : ∃ n y M' ι', Sat C M' ι' (I y) a2 w2 ∧ μ y = n := ⟨_, z, M3, ι3, s3, rfl⟩
      simp only [hex2, dif_pos]
      generalize hch2 : Classical.choose (p := fun n => (∃ y M' ι', Sat C M' ι' (I y) a2 w2 ∧ μ y = n) ∧ ∀ m, (∃ y M' ι', Sat C M' ι' (I y) a2 w2 ∧ μ y = m) → n ≤ m) _ = n2
      have hspec2 : (∃ y M' ι', Sat C M' ι' (I y) a2 w2 ∧ μ y = n2) ∧ ∀ m, (∃ y M' ι', Sat C M' ι' (I y) a2 w2 ∧ μ y = m) → n2 ≤ m := by
        rw [← hch2]; exact Classical.choose_spec (p := fun n => (∃ y M' ι', Sat C M' ι' (I y) a2 w2 ∧ μ y = n) ∧ ∀ m, (∃ y M' ι', Sat C M' ι' (I y) a2 w2 ∧ μ y = m) → n ≤ m) _
      have := hspec2.2 (μ z) ⟨z, M3, ι3, s3, rfl⟩
      omega
    | _ => exact ⟨A', M2, ι2, q, s⟩
  exact key _ x0 rfl M ι a w hs

/-- The trace of a region: from a state, over the operations that are left. -/
def Tr (P : Program) (C : Ctx) (ops : Array Oper) (rest : List Oper) (st : A) (K : List FP → A → Prop) : Prop :=
  ∃ recs : List Rec, recs.map (·.o) = rest ∧ StepsOk P C.G C.N ops recs (look st.ρ) (lookO st.σ) (· ∈ st.ls) ∧
    ∃ A' : AM.A, (look A'.ρ = RT (look st.ρ) recs) ∧ (lookO A'.σ = RH (lookO st.σ) recs) ∧ (∀ l, RU (· ∈ st.ls) recs l → l ∈ A'.ls) ∧ K (recs.map (·.foot ops)) A'
theorem tr_nil {ops : Array Oper} {K : List FP → A → Prop} (h : K [] st) : Tr P C ops [] st K := ⟨[], rfl, trivial, st, rfl, rfl, fun _ h => h, h⟩

theorem tr_cons {ops : Array Oper} {o : Oper} {rest : List Oper} {K : List FP → A → Prop} (r : Rec) (ho : r.o = o) (hs : StepOk P C.G C.N ops r (look st.ρ) (lookO st.σ) (· ∈ st.ls))
    (h : Tr P C ops rest ⟨(match r.o.dst with | some d => (d, r.v) :: st.ρ | none => st.ρ), r.wr ++ st.σ, r.wr.map (·.1) ++ st.ls⟩ (fun fs x => K (r.foot ops :: fs) x)) : Tr P C ops (o :: rest) st K := by
  obtain ⟨recs, h1, h2, A', h3, h4, h5, h6⟩ := h
  have e1 : look (match r.o.dst with | some d => (d, r.v) :: st.ρ | none => st.ρ) = putT (look st.ρ) r.o.dst r.v := by
    cases hd : r.o.dst with
    | none => rfl
    | some d => exact look_put _ _ _
  have e2 : lookO (r.wr ++ st.σ) = Sto.upd (lookO st.σ) r.wr := lookO_upd _ _
  have e3 : (fun l => l ∈ r.wr.map (·.1) ++ st.ls) = (fun l => l ∈ st.ls ∨ l ∈ r.wr.map (·.1)) := funext fun l => propext (by rw [List.mem_append]; exact or_comm)
  simp only [] at h2 h3 h4 h5
  rw [e1, e2, e3] at h2
  rw [e1] at h3
  rw [e2] at h4
  rw [e3] at h5
  exact ⟨r :: recs, by simp [h1, ho], ⟨hs, h2⟩, A', h3, h4, h5, h6⟩

theorem StepsOk.less {G : Gl} {N : Nat} {ops : Array Oper} : ∀ {rs : List Rec} {ρ H} {u u' : Nat → Prop}, (∀ l, u' l → u l) → StepsOk P G N ops rs ρ H u → StepsOk P G N ops rs ρ H u'
  | [], _, _, _, _, _, _ => trivial
  | r :: rs, ρ, H, u, u', hu, h => by
    refine ⟨⟨h.1.1, ?_⟩, StepsOk.less (fun l hl => hl.imp (hu l) id) h.2⟩
    rcases h.1.2 with ⟨a, b, c, d, e⟩ | h'
    · exact .inl ⟨a, b, c, d, fun l h1 h2 h3 => e l h1 h2 (hu l h3)⟩
    · exact .inr h'

theorem ac_region {id : Nat} {ops : Array Oper} {draw : Bool} (hm : P.follows .mixedOrders = true) (h : Tr P C ops ops.toList st (fun fs x => (draw = true → chk ops fs = true) ∧ Q .normal x)) : AC P C (.region id ops draw) st Q := by
  obtain ⟨recs, h1, h2, A', h3, h4, h5, h6, h7⟩ := h
  intro M ι a w hs
  have h2' : StepsOk P C.G C.N ops recs (look st.ρ) (lookO st.σ) (fun l => ι l ≠ none) := h2.less fun l hl => hs.lab l hl
  have hlen : recs.length = ops.size := by rw [← Array.length_toList, ← h1, List.length_map]
  have fin : ∀ S M' ι' H' a' w', (∀ k, k < recs.length → S k) → RInv C.G C.N ops recs (look st.ρ) (lookO st.σ) ι C.E M S M' ι' H' a' w' → ∃ A' M' ι', Q .normal A' ∧ Sat C M' ι' A' a' w' := by
    intro S M' ι' H' a' w' hS hr
    obtain ⟨f1, f2⟩ := hr.final hS
    refine ⟨A', M', ι', h7, ⟨by rw [h4]; exact f1, hr.g, fun t v hv => f2 t v (by rw [← h3]; exact hv), fun l hl => h5 l ?_, hr.sz, hr.df, fun l hl bd hb => ?_⟩⟩
    · rw [RU_iff]
      by_cases hex : ∃ r ∈ recs, r.wl l
      · exact .inr hex
      · left
        refine hs.lab l ?_
        rw [← hr.lab l fun k r hk _ hw => hex ⟨r, List.mem_of_getElem? hk, hw⟩]
        exact hl
    · obtain ⟨b1, e1, e2⟩ := hs.kept l hl bd hb
      obtain ⟨b2, e3, e4⟩ := hr.gr.env l b1 e1
      refine ⟨b2, e3, ?_⟩
      rcases e2 with rfl | ⟨t1, t2, t3⟩
      · exact e4
      · rcases e4 with rfl | ⟨s1, s2, s3⟩
        · exact .inr ⟨t1, t2, t3⟩
        · exact .inr ⟨t1, s2, by omega⟩
  have hstart : ∀ w', w'.heap = w.heap → w'.os = w.os → w'.tape = w.tape → w'.output = w.output → RInv C.G C.N ops recs (look st.ρ) (lookO st.σ) ι C.E M (fun _ => False) M ι (lookO st.σ) a w' :=
    fun w' e1 e2 e3 e4 => RInv.start (hs.inv.of_heap e1 e2 e3 e4) hs.g hs.sz hs.df hs.tm
  cases draw with
  | false =>
    refine wp_region ?_
    have e0 : (fun k => k < 0) = fun _ : Nat => False := funext fun k => propext (by simp)
    rw [List.range_eq_range', ← hlen]
    exact region_text h2' h1 (fun M' ι' H' a' w' hr => fin _ M' ι' H' a' w' (fun k hk => hk) hr) recs.length 0 (by omega) M ι _ a w (by rw [e0]; exact hstart w rfl rfl rfl rfl)
  | true =>
    refine wp_region_any hm ?_
    have e0 : (fun k => (Array.replicate ops.size false).getD k false = true) = fun _ : Nat => False := funext fun k => propext (by
      simp only [Array.getD_eq_getD_getElem?, Array.getElem?_replicate]
      split <;> simp)
    refine region_any h2' h1 (h6 rfl) (fun M' ι' H' a' w' hr => fin _ M' ι' H' a' w' (fun k hk => trivial) hr) ops.size _ (by simp) ?_ ?_ M ι _ a _ (by rw [e0]; exact hstart _ rfl rfl rfl rfl)
    · refine Nat.le_trans (List.length_filter_le _ _) (by simp)
    · intro i o e _ hl
      simp only [Array.getD_eq_getD_getElem?, Array.getElem?_replicate] at hl
      split at hl <;> simp at hl
/-- A region that keeps the order of the text; one that does not; each with what follows. -/
theorem ac_t {id : Nat} {ops : Array Oper} (hm : P.follows .mixedOrders = true) (h : Tr P C ops ops.toList st (fun _ x => Q .normal x)) : AC P C (.region id ops false) st Q :=
  ac_region hm (by
    obtain ⟨r, h1, h2, A', h3, h4, h5, h6⟩ := h
    exact ⟨r, h1, h2, A', h3, h4, h5, ⟨(fun h => (by cases h)), h6⟩⟩)
theorem ac_d {id : Nat} {ops : Array Oper} (hm : P.follows .mixedOrders = true) (h : Tr P C ops ops.toList st (fun fs x => chk ops fs = true ∧ Q .normal x)) : AC P C (.region id ops true) st Q :=
  ac_region hm (by
    obtain ⟨r, h1, h2, A', h3, h4, h5, h6, h7⟩ := h
    exact ⟨r, h1, h2, A', h3, h4, h5, ⟨fun _ => h6, h7⟩⟩)
theorem ac_ts {id : Nat} {ops : Array Oper} {y : Code} (hm : P.follows .mixedOrders = true) (h : Tr P C ops ops.toList st (fun _ x => AC P C y x Q)) : AC P C (.seq (.region id ops false) y) st Q := ac_seq (ac_t hm h)
theorem ac_ds {id : Nat} {ops : Array Oper} {y : Code} (hm : P.follows .mixedOrders = true) (h : Tr P C ops ops.toList st (fun fs x => chk ops fs = true ∧ AC P C y x Q)) : AC P C (.seq (.region id ops true) y) st Q := ac_seq (ac_d hm h)
theorem ac_rets (y : Code) (h : Q .ret st) : AC P C (.seq .ret y) st Q := ac_seq (ac_ret h)
end rules
end Go.AM
set_option linter.unusedVariables false
set_option linter.unusedSimpArgs false
namespace Go.AM
open Go Go.RowKit

/-- Where a call with the objects H begins. -/
def Entry.of (M : Mem) (ι : Env) (H : Sto) (w : World) : Entry := ⟨M, w, fun b => ∃ l o bd, H l = some o ∧ ι l = some bd ∧ bd.blk = some b⟩

theorem Inv.restart {E M ι H w} (h : Inv E M ι H w) {H' : Sto} (hH : ∀ l o, H' l = some o → H l = some o) : Inv (Entry.of M ι H' w) M ι H' w := by
  have h' := h.forget H' hH
  exact ⟨h'.mem, h'.obj, h'.inj, h'.sep, fun l o bd b ho hb hk => .inr ⟨l, o, bd, ho, hb, hk⟩, fun _ _ h => h, fun a v hv hn => (by have : M a = none := hn; rw [hv] at this; cases this), Nat.le_refl _, rfl, rfl, rfl, fun _ _ => rfl⟩

def aggD : TypeDesc → Bool
  | .struct _ => true
  | .array _ _ => true
  | _ => false

def Callable (P : Program) (f : FuncId) : Prop := ∃ fn c, P.funcs[f]? = some fn ∧ fn.body = some c ∧ (fn.name == "runtime.NumGoroutine") = false

/-- Called with 'args', the objects being 'σ', the function returns 'ret', and the objects are 'σ''. Whatever lay in memory besides is as it was. -/
def Ev (P : Program) (G : Gl) (f : FuncId) (args : List V) (σ : List (Nat × O)) (ret : V) (σ' : List (Nat × O)) : Prop :=
  Callable P f ∧
  ∀ M ι w (cargs : List Value), Inv (Entry.of M ι (look σ) w) M ι (look σ) w → GOk G M → RepVs M ι args cargs → (∀ l, look σ' l ≠ none → look σ l = none → ι l = none) →
    Calls P f cargs.toArray w fun e w' => ∃ M' ι' v, e = .returned v ∧ Grow M ι M' ι' ∧ (∀ l, look σ l = none → look σ' l = none → ι' l = ι l) ∧
      Inv (Entry.of M ι (look σ) w) M' ι' (look σ') w' ∧ RepV M' ι' ret v

/-- The footprint of a call. -/
def wrOf (σ σ' : List (Nat × O)) : List (Nat × Option O) := (σ ++ σ').map fun p => (p.1, look σ' p.1)

theorem look_mem {α : Type} : ∀ {r : List (Nat × α)} {l : Nat} {o : α}, look r l = some o → (l, o) ∈ r
  | [], _, _, h => by simp [look] at h
  | (k, v) :: r, l, o, h => by
    rw [look_cons] at h
    split at h
    · rename_i e; injection h with h; subst e; subst h; simp
    · exact List.mem_cons_of_mem _ (look_mem h)
theorem look_none {α : Type} : ∀ {r : List (Nat × α)} {l : Nat}, l ∉ r.map (·.1) → look r l = none
  | [], _, _ => rfl
  | (k, v) :: r, l, h => by
    simp only [List.map_cons, List.mem_cons, not_or] at h
    rw [look_cons, if_neg (fun e => h.1 e.symm)]
    exact look_none h.2
theorem look_some {α : Type} : ∀ {r : List (Nat × α)} {l : Nat}, l ∈ r.map (·.1) → ∃ o, look r l = some o
  | [], _, h => by cases h
  | (k, v) :: r, l, h => by
    rw [look_cons]
    by_cases e : k = l
    · exact ⟨v, by rw [if_pos e]⟩
    · rw [if_neg e]
      simp only [List.map_cons, List.mem_cons] at h
      exact look_some (h.resolve_left (fun x => e x.symm))

theorem upd_map (H : Sto) (g : Nat → Option O) : ∀ (ks : List (Nat × O)) (l : Nat), l ∈ ks.map (·.1) → H.upd (ks.map fun p => (p.1, g p.1)) l = g l
  | [], _, h => by cases h
  | (k, o) :: r, l, h => by
    simp only [List.map_cons, Sto.upd]
    by_cases e : l = k
    · simp [e]
    · rw [if_neg e]
      simp only [List.map_cons, List.mem_cons, e, false_or] at h
      exact upd_map H g r l h

/-- The heart of a call: its objects' part of the store is replaced. -/
theorem Inv.call {E M ι H w} (h : Inv E M ι H w) {σ σ' : List (Nat × O)} (hσ : ∀ l o, look σ l = some o → H l = some o) {M' : Mem} {ι' : Env} {w' : World} (hg : Grow M ι M' ι')
    (hl : ∀ l, look σ l = none → look σ' l = none → ι' l = ι l) (h' : Inv (Entry.of M ι (look σ) w) M' ι' (look σ') w') : Inv E M' ι' (H.upd (wrOf σ σ')) w' := by
  have hkeys : (wrOf σ σ').map (·.1) = (σ ++ σ').map (·.1) := by simp [wrOf, Function.comp_def]
  have hin : ∀ l, l ∈ (σ ++ σ').map (·.1) → H.upd (wrOf σ σ') l = look σ' l := fun l hl => upd_map H (look σ') (σ ++ σ') l hl
  have hout : ∀ l, l ∉ (σ ++ σ').map (·.1) → H.upd (wrOf σ σ') l = H l := fun l hl => Sto.upd_not H _ _ (by rw [hkeys]; exact hl)
  refine h.upd (fun l => l ∈ (σ ++ σ').map (·.1)) (fun k => (Entry.of M ι (look σ) w).blk k) hg (fun k hk => h'.frame k hk) ?_ (fun l hl' => ⟨hout l hl', fun o _ => ?_⟩) ?_ ?_ (fun a v hv hn => h'.new a v hv hn)
    (fun a v hv _ => h'.mem a v hv) h'.size h'.os h'.tape h'.output
  · rintro k (hk | ⟨l, o, bd, e1, e2, e3⟩)
    · exact .inl hk
    · exact .inr ⟨l, o, bd, by rw [List.map_append, List.mem_append]; exact .inl (List.mem_map.2 ⟨_, look_mem e1, rfl⟩), hσ l o e1, e2, e3⟩
  · rw [List.map_append, List.mem_append, not_or] at hl'
    exact hl l (look_none hl'.1) (look_none hl'.2)
  · intro l o hs ho
    rw [hin l hs] at ho
    obtain ⟨bd, e1, e2⟩ := h'.obj l o ho
    exact ⟨bd, e1, e2, fun b hb => ⟨h'.own l o bd b ho e1 hb, fun a v hv hab => h'.sep l o bd b ho e1 hb a v hv hab⟩⟩
  · intro l l' o o' bd bd' b hs hs' ho ho' hb hb' hk hk'
    rw [hin l hs] at ho; rw [hin l' hs'] at ho'
    exact h'.inj l l' o o' bd bd' b ho ho' hb hb' hk hk'

theorem resolve_value {a : Act} {c : Call} {type : TypeId} {fo : Operand} (hc : c.callee = .value fo) : resolve a.eval c type = Deferred.ofValue (a.eval fo) (c.args.map a.eval) := by
  simp only [resolve, hc]

theorem run_callFunc {P : Program} {f : FuncId} (h : Callable P f) (args : Array Value) (w : World) : (callFunc f args).run P w = .ok (.enter f args) w := by
  obtain ⟨fn, c, h1, h2, h3⟩ := h
  have h3' : ¬ fn.name = "runtime.NumGoroutine" := by simpa using h3
  simp [callFunc, h1, h2, h3']

/-- A call by a contract: the callee is known by its number. -/
theorem aop_call {P : Program} {G : Gl} {o : Oper} {c : Call} {f : FuncId} {args caps : List V} {x : V} {σ σ' : List (Nat × O)} {ret : V} {fo : Operand} (ho : o.op = .call c) (hc : c.callee = .value fo)
    (hx : x = .clo f caps ∨ (x = .d (.fn f) ∧ caps = [])) (h : Ev P G f (args ++ caps) σ ret σ') : AOp P G o (x :: args) σ (wrOf σ σ') ret := by
  intro E M ι H w a next Q hi hG hfp hvs hfr hk
  obtain ⟨hcall, h⟩ := h
  have hops : o.op.operands.toList = fo :: c.args.toList := by rw [ho]; simp [Op.operands, Call.operands, hc]
  rw [hops] at hvs
  simp only [List.map_cons, RepVs] at hvs
  obtain ⟨fv, avs, e1, hfv, havs⟩ := hvs
  injection e1 with e1 e2
  subst e1; subst e2
  obtain ⟨cs, hcs, hcsr⟩ : ∃ cs : List Value, a.eval fo = .func (.func f) #[] cs.toArray ∧ RepVs M ι caps cs := by
    rcases hx with rfl | ⟨rfl, rfl⟩
    · simp only [RepV] at hfv
      obtain ⟨vs, e1, e2⟩ := hfv; exact ⟨vs, e1, e2⟩
    · simp only [RepV, RepD] at hfv
      exact ⟨[], by rw [hfv], by simp [RepVs]⟩
  have hσ : ∀ l o', look σ l = some o' → H l = some o' := fun l o' hl => hfp l o' (look_mem hl)
  have hrun : (execOp a.eval o).run P w = .ok (.enter f ((c.args.toList.map a.eval) ++ cs).toArray) w := by
    simp only [execOp, ho, resolve_value hc, hcs, Deferred.ofValue, Sem.run_bind, Sem.run_pure, Result.andThen_ok, invoke]
    rw [run_callFunc hcall]
    congr 2
    simp
  unfold Oper.wp
  rw [hrun, Oper.upon_enter]
  refine (h M ι w _ (hi.restart hσ) hG (RepVs.append havs hcsr) (fun l h1 h2 => ?_)).mono ?_
  · refine hfr l ?_ fun hm => ?_
    · simp only [wrOf, List.map_map, List.mem_map, Function.comp_def]
      cases hl : look σ' l with
      | none => exact absurd hl h1
      | some o' => exact ⟨(l, o'), List.mem_append_right _ (look_mem hl), rfl⟩
    · obtain ⟨o', ho'⟩ := look_some hm; rw [h2] at ho'; cases ho'
  · rintro e w' ⟨M', ι', v, rfl, hg, hl, hinv, hv⟩
    refine hk M' ι' w' v hg (fun l hnl => ?_) (hi.call hσ hg hl hinv) hv
    have hnl' : l ∉ (σ ++ σ').map (·.1) := by simpa [wrOf, Function.comp_def] using hnl
    rw [List.map_append, List.mem_append, not_or] at hnl'
    exact hl l (look_none hnl'.1) (look_none hnl'.2)

/-- One value says less than another one. -/
def VLe (x y : V) : Prop := ∀ M ι v, RepV M ι x v → RepV M ι y v
theorem VLe.rfl {x : V} : VLe x x := fun _ _ _ h => h
theorem VLe.any {x : V} : VLe x .any := fun _ _ _ _ => by simp [RepV]
theorem VLe.own {es : List (List D)} {l : Nat} : VLe (.own es l) (.d (.slice es)) := fun _ _ _ h => by simp only [RepV] at h ⊢; exact h.1
theorem VLe.full {es : List (List D)} : VLe (.full es) (.d (.slice es)) := fun _ _ _ h => by simp only [RepV] at h ⊢; exact h.1
theorem RepD.nil_slice {M : Mem} : RepD M (.slice []) (.slice none 0 0) := by
  simp only [RepD, List.length_nil]
  exact ⟨none, 0, 0, _root_.rfl, Nat.le_refl _, by simp [maxLen], by simp, fun h => absurd _root_.rfl h⟩
theorem VLe.nils : VLe (.d .nils) (.d (.slice [])) := fun _ _ _ h => by
  simp only [RepV] at h ⊢
  simp only [RepD] at h
  subst h
  exact RepD.nil_slice
theorem VLe.nilfull : VLe (.d .nils) (.full []) := fun _ _ _ h => by
  simp only [RepV] at h ⊢
  simp only [RepD] at h
  subst h
  exact ⟨RepD.nil_slice, none, _root_.rfl⟩
theorem VLe.clo {f : FuncId} : VLe (.d (.fn f)) (.clo f []) := fun _ _ _ h => by
  simp only [RepV] at h ⊢
  simp only [RepD] at h
  subst h
  exact ⟨[], _root_.rfl, by simp [RepVs]⟩
theorem VLe.fn {f : FuncId} : VLe (.clo f []) (.d (.fn f)) := fun _ _ _ h => by
  simp only [RepV] at h ⊢
  obtain ⟨vs, rfl, h2⟩ := h
  simp only [RepVs] at h2
  subst h2
  simp [RepD]
inductive VLes : List V → List V → Prop
  | nil : VLes [] []
  | cons {x y xs ys} : VLe x y → VLes xs ys → VLes (x :: xs) (y :: ys)
theorem VLes.rfl : ∀ {xs : List V}, VLes xs xs
  | [] => .nil
  | x :: xs => .cons VLe.rfl VLes.rfl
theorem VLes.rep {M : Mem} {ι : Env} : ∀ {xs ys : List V} {l : List Value}, VLes xs ys → RepVs M ι xs l → RepVs M ι ys l
  | _, _, _, .nil, h => h
  | _, _, _, .cons h1 h2, h => by
    simp only [RepVs] at h ⊢
    obtain ⟨v, r, e, h3, h4⟩ := h
    exact ⟨v, r, e, h1 _ _ _ h3, h2.rep h4⟩
theorem VLe.agg {xs ys : List V} (h : VLes xs ys) : VLe (.agg xs) (.agg ys) := fun M ι v k => by
  simp only [RepV] at k ⊢
  obtain ⟨vs, e1, e2, e3⟩ := k
  exact ⟨vs, e1, h.rep e2, e3⟩
theorem VLe.tup {xs ys : List V} (h : VLes xs ys) : VLe (.tup xs) (.tup ys) := fun M ι v k => by
  simp only [RepV] at k ⊢
  obtain ⟨vs, e1, e2⟩ := k
  exact ⟨vs, e1, h.rep e2⟩

/-- The same of objects. -/
inductive OLe : O → O → Prop
  | rfl {o} : OLe o o
  | cells {xs ys t} : VLes xs ys → OLe (.cells xs t) (.cells ys t)
theorem OLe.rep {M : Mem} {ι : Env} {w : World} {bd : Bind} {o o' : O} (h : OLe o o') (k : ORep M ι w bd o) : ORep M ι w bd o' := by
  cases h with
  | rfl => exact k
  | cells h => obtain ⟨h0, b, cs, h1, h2, h3, h4⟩ := k; exact ⟨h0, b, cs, h1, h2, h.rep h3, h4⟩
theorem OLe.holds {o o' : O} (h : OLe o o') (n : Nat) : o.holds n → o'.holds n := by
  cases h with
  | rfl => exact id
  | cells h => exact id

/-- All labels of an object are in a set. -/
def O.on (S : List Nat) : O → Bool
  | .cells vs _ => V.onAll S vs
  | .row _ _ _ => true
  | .map _ => true
  | .arr _ _ _ => true
  | .raw _ _ _ => true

theorem Inv.ole {E M ι H w} (h : Inv E M ι H w) {H' : Sto} (hH : ∀ l o', H' l = some o' → ∃ o, H l = some o ∧ OLe o o') : Inv E M ι H' w :=
  ⟨h.mem, fun l o' ho' => by obtain ⟨o, ho, hle⟩ := hH l o' ho'; obtain ⟨bd, e1, e2⟩ := h.obj l o ho; exact ⟨bd, e1, hle.rep e2⟩,
    fun l l' o o' bd bd' b ho ho' => by obtain ⟨o1, h1, _⟩ := hH l o ho; obtain ⟨o2, h2, _⟩ := hH l' o' ho'; exact h.inj l l' o1 o2 bd bd' b h1 h2,
    fun l o bd b ho hb hk a v hv hab => by obtain ⟨o1, h1, hle⟩ := hH l o ho; exact hle.holds _ (h.sep l o1 bd b h1 hb hk a v hv hab),
    fun l o bd b ho => by obtain ⟨o1, h1, _⟩ := hH l o ho; exact h.own l o1 bd b h1, h.le, h.new, h.size, h.os, h.tape, h.output, h.frame⟩

/-- Only the labels that the objects bear matter. -/
theorem Inv.env {E M ι H w} (h : Inv E M ι H w) {ι' : Env} {S : List Nat} (hS : ∀ l, S.contains l = true → ι' l = ι l) (hH : ∀ l o, H l = some o → S.contains l = true ∧ o.on S = true) : Inv E M ι' H w :=
  ⟨h.mem, fun l o ho => by
      obtain ⟨h1, h2⟩ := hH l o ho
      obtain ⟨bd, e1, e2⟩ := h.obj l o ho
      refine ⟨bd, by rw [hS l h1]; exact e1, ?_⟩
      cases o with
      | cells vs t => obtain ⟨h0, b, cs, k1, k2, k3, k4⟩ := e2; exact ⟨h0, b, cs, k1, k2, RepVs.on hS _ _ h2 k3, k4⟩
      | row n sz t => exact e2
      | map es => exact e2
      | arr es sz t => exact e2
      | raw q tg ob => exact e2,
    fun l l' o o' bd bd' b ho ho' hb hb' => h.inj l l' o o' bd bd' b ho ho' (by rw [← hS l (hH l o ho).1]; exact hb) (by rw [← hS l' (hH l' o' ho').1]; exact hb'),
    fun l o bd b ho hb => h.sep l o bd b ho (by rw [← hS l (hH l o ho).1]; exact hb),
    fun l o bd b ho hb => h.own l o bd b ho (by rw [← hS l (hH l o ho).1]; exact hb), h.le, h.new, h.size, h.os, h.tape, h.output, h.frame⟩

def onSto (S : List Nat) : List (Nat × O) → Bool
  | [] => true
  | (l, o) :: r => S.contains l && o.on S && onSto S r
theorem onSto_at {S : List Nat} : ∀ {σ : List (Nat × O)}, onSto S σ = true → ∀ l o, look σ l = some o → S.contains l = true ∧ o.on S = true
  | [], _, l, o, h => by simp [look] at h
  | (k, x) :: r, hs, l, o, h => by
    simp only [onSto, Bool.and_eq_true] at hs
    rw [look_cons] at h
    split at h
    · rename_i e; injection h with h; subst e; subst h; exact hs.1
    · exact onSto_at hs.2 l o h

/-- What a function hands back, off its result slots. -/
def RetV (P : Program) (A' : A) : List ResultVar → List V → Prop
  | [], l => l = []
  | .tmp t :: rs, l => ∃ v r, l = v :: r ∧ look A'.ρ t = some v ∧ RetV P A' rs r
  | .cell p t :: rs, l => ∃ v r lb vs ty, l = v :: r ∧ look A'.ρ p = some (.ptr lb 0) ∧ lookO A'.σ lb = some (.cells vs ty) ∧
      ((∃ i d, P.info? t = some i ∧ P.underlying t = some d ∧ i.size = vs.length ∧ aggD d = true ∧ v = .agg vs) ∨
       (∃ d, P.underlying t = some d ∧ aggD d = false ∧ vs = [v])) ∧ RetV P A' rs r

/-- The values as one. -/
def oneV : List V → V
  | [v] => v
  | l => .tup l

theorem run_loadCells {P : Program} {w : World} {ad : Addr} : ∀ (vs : List Value) (i : Nat) (acc : Array Value), (∀ j v, vs[j]? = some v → w.cell? (ad.add (i + j)) = some v) → (loadCellsFrom ad i vs.length acc).run P w = .ok (acc ++ vs.toArray) w
  | [], i, acc, _ => by simp [loadCellsFrom]
  | v :: vs, i, acc, h => by
    have h0 := h 0 v (by simp)
    simp only [Nat.add_zero] at h0
    simp only [List.length_cons, loadCellsFrom, Sem.run_bind, run_load, h0, Result.andThen_ok]
    rw [run_loadCells vs (i + 1) (acc.push v) (fun j u hj => by
      have := h (j + 1) u (by simpa using hj)
      rwa [show i + (j + 1) = i + 1 + j by omega] at this)]
    simp
theorem run_loadVar_agg {P : Program} {w : World} {ad : Addr} {t : TypeId} {i : TypeInfo} {d : TypeDesc} (hi : P.info? t = some i) (hd : P.underlying t = some d) (ha : aggD d = true) {vs : List Value} (hn : i.size = vs.length)
    (hc : ∀ j v, vs[j]? = some v → w.cell? (ad.add j) = some v) : (loadVar t ad).run P w = .ok (.agg vs.toArray) w := by
  have hagg : (isAgg t).run P w = .ok true w := by
    simp only [isAgg, underlying, Sem.run_bind, run_program, Result.andThen_ok, hd, Sem.run_pure]
    cases d <;> simp_all [aggD]
  simp only [loadVar, Sem.run_bind, hagg, Result.andThen_ok, if_true, sizeOf, typeInfo, run_program, hi, Sem.run_pure, loadCells, hn]
  rw [run_loadCells vs 0 #[] (by simpa using hc)]
  simp
theorem run_loadVar_one {P : Program} {w : World} {ad : Addr} {t : TypeId} {d : TypeDesc} (hd : P.underlying t = some d) (ha : aggD d = false) {v : Value} (hc : w.cell? ad = some v) : (loadVar t ad).run P w = .ok v w := by
  have hagg : (isAgg t).run P w = .ok false w := by
    simp only [isAgg, underlying, Sem.run_bind, run_program, Result.andThen_ok, hd, Sem.run_pure]
    cases d <;> simp_all [aggD]
  simp only [loadVar, Sem.run_bind, hagg, Result.andThen_ok, Bool.false_eq_true, if_false, run_load, hc]

/-- The cells of an object, read. -/
theorem Inv.cells {E M ι H w} (h : Inv E M ι H w) {l : Nat} {vs : List V} {t : TypeId} (ho : H l = some (.cells vs t)) : ∃ bd b cs, ι l = some bd ∧ bd.tag = .cells ∧ bd.blk = some b ∧ w.heap[b]? = some (.cells (List.toArray cs) t (0, 0)) ∧ RepVs M ι vs cs ∧ (∀ x ∈ cs, x.oneCell' = true) ∧
    ∀ off j v, (cs.drop off)[j]? = some v → w.cell? ((⟨b, off, none⟩ : Addr).add j) = some v := by
  obtain ⟨bd, e1, h0, b, cs, h1, h2, h3, h4⟩ := h.obj l _ ho
  refine ⟨bd, b, cs, e1, h0, h1, h2, h3, h4, fun off j v hv => ?_⟩
  have : (⟨b, off, none⟩ : Addr).add j = ⟨b, off + j, none⟩ := by simp only [Addr.add]; split <;> simp_all
  rw [this]
  unfold World.cell?
  rw [h2]
  simpa using hv

theorem run_asAddr {P : Program} {w : World} {ad : Addr} : (asAddr (.pointer (some ad))).run P w = .ok ad w := by simp [asAddr]

def resOf (tmps : Array Value) : ResultVar → Sem Value
  | .tmp t => pure (tmps.getD t undef)
  | .cell p t => do loadVar t (← asAddr (tmps.getD p undef))
theorem results_eq (fn : Func) (tmps : Array Value) : results fn tmps = (fn.results.mapM (resOf tmps)) >>= fun vs => pure (if h : vs.size = 1 then vs[0] else .tuple vs) := by
  unfold results
  have : (fun x => match x with | .tmp t => pure (tmps.getD t undef) | .cell a t => do loadVar t (← asAddr (tmps.getD a undef)) : ResultVar → Sem Value) = resOf tmps := funext fun x => by cases x <;> rfl
  rw [← this]
  rfl

theorem results_run {P : Program} {C : Ctx} {M : Mem} {ι : Env} {A' : A} {a : Act} {w : World} (hs : Sat C M ι A' a w) : ∀ (rs : List ResultVar) (vs : List V), RetV P A' rs vs → ∃ us : List Value, RepVs M ι vs us ∧ vs.length = rs.length ∧
    (rs.mapM (resOf a.tmps)).run P w = .ok us w
  | [], vs, h => by simp only [RetV] at h; subst h; exact ⟨[], by simp [RepVs], rfl, by simp⟩
  | .tmp t :: rs, vs, h => by
    obtain ⟨v, r, rfl, h1, h2⟩ := h
    obtain ⟨us, k1, k2, k3⟩ := results_run hs rs r h2
    refine ⟨a.tmps.getD t undef :: us, ?_, by simp [k2], ?_⟩
    · simp only [RepVs]; exact ⟨_, us, rfl, hs.tm t v h1, k1⟩
    · rw [List.mapM_cons]
      simp only [resOf]
      simp only [Sem.run_bind, Sem.run_pure, Result.andThen_ok, k3]
  | .cell p t :: rs, vs, h => by
    obtain ⟨v, r, lb, cvs, ty, rfl, h1, h2, h3, h4⟩ := h
    obtain ⟨us, k1, k2, k3⟩ := results_run hs rs r h4
    have hp := hs.tm p _ h1
    simp only [RepV] at hp
    obtain ⟨bd, b, p1, p2, p3, p4⟩ := hp
    obtain ⟨bd', b', cs, c1, c2, c3, c4, c5, c6, c7⟩ := hs.inv.cells h2
    rw [p1] at c1; injection c1 with c1; subst c1
    rw [p3] at c3; injection c3 with c3; subst c3
    have hcell := c7 0
    simp only [List.drop_zero] at hcell
    rcases h3 with ⟨i, d, q1, q2, q3, q4, rfl⟩ | ⟨d, q1, q2, rfl⟩
    · refine ⟨.agg cs.toArray :: us, ?_, by simp [k2], ?_⟩
      · simp only [RepVs, RepV]; exact ⟨_, us, rfl, ⟨cs, rfl, c5, c6⟩, k1⟩
      · rw [List.mapM_cons]
        simp only [resOf]
        simp only [Sem.run_bind, p4, run_asAddr, Result.andThen_ok]
        rw [run_loadVar_agg q1 q2 q4 (by rw [q3, c5.length]) hcell]
        simp only [Result.andThen_ok, k3, Sem.run_pure]
    · simp only [RepVs] at c5
      obtain ⟨u, r', rfl, c8, rfl⟩ := c5
      refine ⟨u :: us, ?_, by simp [k2], ?_⟩
      · simp only [RepVs]; exact ⟨_, us, rfl, c8, k1⟩
      · rw [List.mapM_cons]
        simp only [resOf]
        simp only [Sem.run_bind, p4, run_asAddr, Result.andThen_ok]
        rw [run_loadVar_one q1 q2 (by simpa [Addr.add] using hcell 0 u (by simp))]
        simp only [Result.andThen_ok, k3, Sem.run_pure]

def enumV : Nat → List V → List (Nat × V)
  | _, [] => []
  | n, v :: r => (n, v) :: enumV (n + 1) r
theorem enumV_look : ∀ (xs : List V) (n t : Nat) (v : V), look (enumV n xs) t = some v → n ≤ t ∧ xs[t - n]? = some v
  | [], _, _, _, h => by simp [enumV, look] at h
  | x :: xs, n, t, v, h => by
    simp only [enumV] at h
    rw [look_cons] at h
    split at h
    · rename_i e; injection h with h; subst e; subst h; exact ⟨Nat.le_refl _, by simp⟩
    · rename_i e
      obtain ⟨h1, h2⟩ := enumV_look xs (n + 1) t v h
      refine ⟨by omega, ?_⟩
      rw [show t - n = (t - (n + 1)) + 1 by omega]
      simpa using h2

def someO (σ : List (Nat × O)) : List (Nat × Option O) := σ.map fun p => (p.1, some p.2)
theorem lookO_some (σ : List (Nat × O)) : lookO (someO σ) = look σ := funext fun l => by
  induction σ with
  | nil => rfl
  | cons p r ih =>
    simp only [lookO, someO, List.map_cons] at ih ⊢
    rw [look_cons, look_cons]
    by_cases e : p.1 = l
    · rw [if_pos e, if_pos e]
    · rw [if_neg e, if_neg e]; exact ih

/-- How a body must end. -/
def Ends (P : Program) (C : Ctx) (rs : List ResultVar) (ret : V) (σ' : List (Nat × O)) (ex : Exit) (A' : A) : Prop :=
  (ex = .normal ∨ ex = .ret) ∧ ∃ vs, RetV P A' rs vs ∧ VLe (oneV vs) ret ∧ ∀ l o', look σ' l = some o' → ∃ o, lookO A'.σ l = some o ∧ OLe o o'

/-- A body meets its contract. -/
theorem ev_of_body {P : Program} {G : Gl} {f : FuncId} {fn : Func} {c : Code} {args : List V} {σ σ' : List (Nat × O)} {ret : V} (hf : P.funcs[f]? = some fn) (hb : fn.body = some c) (hn : (fn.name == "runtime.NumGoroutine") = false)
    {N : Nat} {ks : List Nat} {ρ0 : List (Nat × V)} {σ0 : List (Nat × Option O)} {rs : List ResultVar} (hN : fn.ntmps = N) (hks : σ.map (·.1) = ks) (hρ : enumV 0 args = ρ0) (hσ : someO σ = σ0) (hrs : fn.results.toList = rs) (hsz : Nat.ble args.length fn.ntmps = true) (h1 : V.onAll (σ.map (·.1)) args = true) (h2 : onSto (σ.map (·.1)) σ = true) (h3 : ret.on ((σ ++ σ').map (·.1)) = true) (h4 : onSto ((σ ++ σ').map (·.1)) σ' = true)
    (h : ∀ E ι0, AC P ⟨G, N, E, ι0, ks⟩ c ⟨ρ0, σ0, ks⟩ (Ends P ⟨G, N, E, ι0, ks⟩ rs ret σ')) : Ev P G f args σ ret σ' := by
  subst hN; subst hks; subst hρ; subst hσ; subst hrs
  refine ⟨⟨fn, c, hf, hb, hn⟩, fun M ι w cargs hi hG hargs hfr => ?_⟩
  refine calls_of_wp hf hb ?_
  -- the labels that the body does not know are forgotten
  let ιs : Env := fun l => if (σ.map (·.1)).contains l then ι l else none
  have hιs : ∀ l, (σ.map (·.1)).contains l = true → ιs l = ι l := fun l hl => by simp only [ιs, hl, if_true]
  have hi2 : Inv (Entry.of M ι (look σ) w) M ιs (lookO (someO σ)) w := by
    rw [lookO_some]
    exact hi.env hιs (fun l o ho => onSto_at h2 l o ho)
  have hargs2 : RepVs M ιs args cargs := RepVs.on hιs _ _ h1 hargs
  have hlen := hargs.length
  have hle : args.length ≤ fn.ntmps := Nat.le_of_ble_eq_true hsz
  have hsat : Sat ⟨G, fn.ntmps, Entry.of M ι (look σ) w, ι, σ.map (·.1)⟩ M ιs ⟨enumV 0 args, someO σ, σ.map (·.1)⟩ { tmps := cargs.toArray ++ Array.replicate (fn.ntmps - cargs.toArray.size) undef, defers := [] } w := by
    refine ⟨hi2, hG, fun t v hv => ?_, fun l hl => ?_, by simp; omega, rfl, fun l hl bd hbd => ⟨bd, by rw [hιs l (by simpa using hl)]; exact hbd, .inl rfl⟩⟩
    · obtain ⟨_, hv⟩ := enumV_look _ _ _ _ hv
      obtain ⟨u, hu, hr⟩ := hargs2.get hv
      simp only [Nat.sub_zero] at hu
      have : t < cargs.length := (List.getElem?_eq_some_iff.1 hu).1
      simp only [Array.getD_eq_getD_getElem?]
      rw [Array.getElem?_append_left (by simpa using this)]
      simpa [hu] using hr
    · by_cases hc : (σ.map (·.1)).contains l = true
      · simpa using hc
      · simp only [ιs, hc] at hl; exact absurd rfl hl
  refine wp_mono (h _ _ M ιs _ w hsat) ?_
  rintro ex a' w' ⟨A', M', ι', ⟨hex, vs, hret, hle', hobj⟩, hs⟩
  obtain ⟨us, k1, k2, k3⟩ := results_run hs _ _ hret
  have hgoal : ∃ v, (results fn a'.tmps).run P w' = .ok v w' ∧ RepV M' ι' (oneV vs) v := by
    have hm : (fn.results.mapM (resOf a'.tmps)).run P w' = .ok us.toArray w' := by
      rw [← Array.toArray_toList (xs := fn.results), List.mapM_toArray]
      simp only [Sem.run_map, k3, Result.andThen_ok]
    rw [results_eq, Sem.run_bind, hm]
    simp only [Result.andThen_ok, Sem.run_pure]
    refine ⟨_, rfl, ?_⟩
    match vs, us, k1 with
    | [v], us, k1 =>
      simp only [RepVs] at k1
      obtain ⟨u, r, rfl, q1, rfl⟩ := k1
      simpa [oneV] using q1
    | [], us, k1 =>
      simp only [RepVs] at k1; subst k1
      simp [oneV, RepV, RepVs]
    | v1 :: v2 :: vr, us, k1 =>
      have hl := k1.length
      rw [dif_neg (by simp at hl ⊢; omega)]
      simp only [oneV, RepV]
      exact ⟨us, rfl, k1⟩
  obtain ⟨v, hv1, hv2⟩ := hgoal
  have hpost : a'.defers = [] ∧ ∃ v, (results fn a'.tmps).run P w' = .ok v w' ∧ ∃ M' ι' v', Ending.returned v = .returned v' ∧ Grow M ι M' ι' ∧ (∀ l, look σ l = none → look σ' l = none → ι' l = ι l) ∧
      Inv (Entry.of M ι (look σ) w) M' ι' (look σ') w' ∧ RepV M' ι' ret v' := by
    refine ⟨hs.df, v, hv1, M', fun l => if ((σ ++ σ').map (·.1)).contains l then ι' l else ι l, v, rfl, ⟨fun a u hu => hs.inv.le a u hu, fun l bd hl => ?_⟩, fun l e1 e2 => ?_, ?_, ?_⟩
    · by_cases hc : ((σ ++ σ').map (·.1)).contains l = true
      · simp only [hc, if_true]
        by_cases hc1 : l ∈ σ.map (·.1)
        · exact hs.kept l hc1 bd hl
        · exfalso
          have hin : l ∈ σ'.map (·.1) := by
            have : l ∈ (σ ++ σ').map (·.1) := by simpa using hc
            rw [List.map_append, List.mem_append] at this
            exact this.resolve_left hc1
          obtain ⟨o, ho⟩ := look_some hin
          rw [hfr l (by rw [ho]; simp) (look_none hc1)] at hl
          cases hl
      · simp only [hc]
        exact ⟨bd, by simpa using hl, .inl rfl⟩
    · have hc : ((σ ++ σ').map (·.1)).contains l = false := by
        cases hcc : ((σ ++ σ').map (·.1)).contains l with
        | false => rfl
        | true =>
          have : l ∈ (σ ++ σ').map (·.1) := by simpa using hcc
          rw [List.map_append, List.mem_append] at this
          rcases this with h' | h'
          · obtain ⟨o, ho⟩ := look_some h'; rw [e1] at ho; cases ho
          · obtain ⟨o, ho⟩ := look_some h'; rw [e2] at ho; cases ho
      simp only [hc, Bool.false_eq_true, if_false]
    · refine (hs.inv.ole (H' := look σ') hobj).env (S := (σ ++ σ').map (·.1)) (fun l hl => by simp only [hl, if_true]) (fun l o ho => onSto_at h4 l o ho)
    · refine RepV.on (S := (σ ++ σ').map (·.1)) (fun l hl => by simp only [hl, if_true]) _ _ h3 (hle' _ _ _ hv2)
  rcases hex with rfl | rfl <;> exact hpost
end Go.AM

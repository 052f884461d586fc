/-
  The logic of walks over the abstract store: code, calls, function bodies.
-/
import Derived.Test.YtgilcibfknafiaaGreatDoorAmC
set_option linter.unusedVariables false
set_option linter.unusedSimpArgs false
namespace Go.AM
open Go Go.RowKit

/-- The abstract state: temporaries, objects, the labels that are in use. -/
structure A where
  ρ : List (Nat × V)
  σ : List (Nat × Option O)
  ls : List Nat

def lookO (σ : List (Nat × Option O)) (l : Nat) : Option O :=
  match look σ l with
  | some o => o
  | none => none

theorem lookO_upd (σ : List (Nat × Option O)) : ∀ (wr : List (Nat × Option O)), (fun l => lookO (wr ++ σ) l) = Sto.upd (lookO σ) wr
  | [] => rfl
  | (k, o) :: r => funext fun l => by
    have ih := congrFun (lookO_upd σ r) l
    simp only [List.cons_append, Sto.upd]
    simp only [lookO] at ih ⊢
    rw [look_cons]
    by_cases e : l = k
    · subst e; simp
    · rw [if_neg (fun x => e x.symm), if_neg e]; exact ih
theorem look_put (ρ : List (Nat × V)) (d : Nat) (v : V) : (fun t => look ((d, v) :: ρ) t) = putT (look ρ) (some d) v := funext fun t => by
  simp only [putT, look_cons]
  by_cases e : t = d
  · subst e; simp
  · rw [if_neg (fun x => e x.symm), if_neg e]

/-- Where the walk of a body began, and the labels that its caller knows. -/
structure Ctx where
  G : Gl
  N : Nat
  E : Entry
  ι0 : Env
  keep : List Nat

structure Sat (C : Ctx) (M : Mem) (ι : Env) (A : A) (a : Act) (w : World) : Prop where
  inv : Inv C.E M ι (lookO A.σ) w
  g : GOk C.G M
  tm : ∀ t v, look A.ρ t = some v → RepV M ι v (a.tmps.getD t undef)
  lab : ∀ l, ι l ≠ none → l ∈ A.ls
  sz : a.tmps.size = C.N
  df : a.defers = []
  kept : ∀ l ∈ C.keep, ∀ bd, C.ι0 l = some bd → ∃ bd', ι l = some bd' ∧ (bd' = bd ∨ (bd.tag = .row ∧ bd'.tag = .row ∧ bd.n < bd'.n))

/-- The code, from a state, ends as Q says. -/
def AC (P : Program) (C : Ctx) (c : Code) (A : A) (Q : Exit → AM.A → Prop) : Prop :=
  ∀ M ι a w, Sat C M ι A a w → c.wp P (fun ex a' w' => ∃ A' M' ι', Q ex A' ∧ Sat C M' ι' A' a' w') a w

def thenQ (K : A → Prop) (Q : Exit → A → Prop) : Exit → A → Prop
  | .normal, x => K x
  | e, x => Q e x

section rules
variable {P : Program} {C : Ctx} {st : A} {Q : Exit → A → Prop}
theorem ac_mono {c : Code} {Q' : Exit → A → Prop} (h : AC P C c st Q) (hq : ∀ e x, Q e x → Q' e x) : AC P C c st Q' :=
  fun M ι a w hs => wp_mono (h M ι a w hs) fun e a w ⟨A', M', ι', q, s⟩ => ⟨A', M', ι', hq _ _ q, s⟩
theorem ac_skip (h : Q .normal st) : AC P C .skip st Q := fun M ι a w hs => wp_skip ⟨st, M, ι, h, hs⟩
theorem ac_ret (h : Q .ret st) : AC P C .ret st Q := fun M ι a w hs => wp_ret ⟨st, M, ι, h, hs⟩
theorem ac_exit {id : Nat} (h : Q (.exit id) st) : AC P C (.exit id) st Q := fun M ι a w hs => wp_exit ⟨st, M, ι, h, hs⟩
theorem ac_seq {x y : Code} (h : AC P C x st (thenQ (fun s => AC P C y s Q) Q)) : AC P C (.seq x y) st Q := by
  intro M ι a w hs
  refine wp_seq (wp_mono (h M ι a w hs) fun e a' w' ⟨A', M', ι', q, s⟩ => ?_)
  cases e with
  | normal => exact q M' ι' a' w' s
  | _ => exact ⟨A', M', ι', q, s⟩
theorem ac_cond {c : Operand} {x y : Code} {b : Bool} (hc : opd C.G (look st.ρ) c = some (.d (.bool b))) (ht : b = true → AC P C x st Q) (hf : b = false → AC P C y st Q) : AC P C (.cond c x y) st Q := by
  intro M ι a w hs
  have hr := Opds.rep (a := a) (M := M) (ι := ι) hs.g [c] [.d (.bool b)] ⟨_, _, rfl, hc, rfl⟩ (fun t _ v hv => hs.tm t v hv)
  simp only [List.map_cons, List.map_nil, RepVs, RepV, RepD] at hr
  obtain ⟨v, r, h1, h2, _⟩ := hr
  have hb : a.eval c = .bool b := by rw [← h2]; injection h1
  exact wp_cond_split hb (fun e => ht e M ι a w hs) (fun e => hf e M ι a w hs)
def blockQ (id : Nat) (Q : Exit → A → Prop) : Exit → A → Prop
  | .exit i, x => if i = id then Q .normal x else Q (.exit i) x
  | e, x => Q e x
theorem ac_block {id : Nat} {c : Code} (h : AC P C c st (blockQ id Q)) : AC P C (.block id c) st Q := by
  intro M ι a w hs
  refine wp_block (wp_mono (h M ι a w hs) fun e a' w' ⟨A', M', ι', q, s⟩ => ?_)
  cases e with
  | exit i =>
    simp only [blockQ] at q
    simp only [Exit.inBlock]
    split
    · rename_i e; rw [if_pos e] at q; exact ⟨A', M', ι', q, s⟩
    · rename_i e; rw [if_neg e] at q; exact ⟨A', M', ι', q, s⟩
  | _ => exact ⟨A', M', ι', q, s⟩

/-- A state says less than another one. -/
def Weak (C : Ctx) (x y : A) : Prop := ∀ M ι a w, Sat C M ι x a w → ∃ ι', Sat C M ι' y a w
theorem Weak.refl (x : A) : Weak C x x := fun M ι a w h => ⟨ι, h⟩
theorem Weak.trans {x y z : A} (h : Weak C x y) (k : Weak C y z) : Weak C x z := fun M ι a w hs => by
  obtain ⟨ι', h'⟩ := h M ι a w hs
  exact k M ι' a w h'
theorem ac_weak {c : Code} {x : A} (h : Weak C st x) (k : AC P C c x Q) : AC P C c st Q := fun M ι a w hs => by
  obtain ⟨ι', h'⟩ := h M ι a w hs
  exact k M ι' a w h'

theorem ac_loop {c : Code} {α : Type} (I : α → A) (μ : α → Nat) (x0 : α) (h0 : Weak C st (I x0))
    (h : ∀ x, AC P C c (I x) (thenQ (fun s => ∃ y, μ y < μ x ∧ Weak C s (I y)) Q)) : AC P C (.loop c) st Q := by
  refine ac_weak h0 fun M ι a w hs => ?_
  -- the relation is over the act and the world: the index and what is known are found again
  have key : ∀ n x, μ x = n → ∀ M ι a w, Sat C M ι (I x) a w → (Code.loop c).wp P (fun ex a' w' => ∃ A' M' ι', Q ex A' ∧ Sat C M' ι' A' a' w') a w := by
    intro n x hx M ι a w hs
    refine wp_loop (fun a' w' => ∃ y M' ι', Sat C M' ι' (I y) a' w') (fun a' w' => by
      classical exact if h : ∃ n y M' ι', Sat C M' ι' (I y) a' w' ∧ μ y = n then Classical.choose (p := fun n => (∃ y M' ι', Sat C M' ι' (I y) a' w' ∧ μ y = n) ∧ ∀ m, (∃ y M' ι', Sat C M' ι' (I y) a' w' ∧ μ y = m) → n ≤ m) (by
        obtain ⟨n0, hn0⟩ := h
        induction n0 using Nat.strongRecOn with
        | _ k ih =>
          by_cases hex : ∃ m, m < k ∧ ∃ y M' ι', Sat C M' ι' (I y) a' w' ∧ μ y = m
          · obtain ⟨m, hm, hy⟩ := hex; exact ih m hm hy
          · exact ⟨k, hn0, fun m hm => Nat.le_of_not_lt fun hlt => hex ⟨m, hlt, hm⟩⟩) else 0) ⟨x, M, ι, hs⟩ ?_
    intro a1 w1 hI
    have hex : ∃ n y M' ι', Sat C M' ι' (I y) a1 w1 ∧ μ y = n := by
      obtain ⟨y, M', ι', hy⟩ := hI; exact ⟨_, y, M', ι', hy, rfl⟩
    -- the least index
    simp only [hex, dif_pos]
    generalize hch : Classical.choose (p := fun n => (∃ y M' ι', Sat C M' ι' (I y) a1 w1 ∧ μ y = n) ∧ ∀ m, (∃ y M' ι', Sat C M' ι' (I y) a1 w1 ∧ μ y = m) → n ≤ m) _ = n1
    have hspec : (∃ y M' ι', Sat C M' ι' (I y) a1 w1 ∧ μ y = n1) ∧ ∀ m, (∃ y M' ι', Sat C M' ι' (I y) a1 w1 ∧ μ y = m) → n1 ≤ m := by
      rw [← hch]; exact Classical.choose_spec (p := fun n => (∃ y M' ι', Sat C M' ι' (I y) a1 w1 ∧ μ y = n) ∧ ∀ m, (∃ y M' ι', Sat C M' ι' (I y) a1 w1 ∧ μ y = m) → n ≤ m) _
    obtain ⟨⟨y, M1, ι1, hy, rfl⟩, _⟩ := hspec
    refine wp_mono (h y M1 ι1 a1 w1 hy) fun e a2 w2 ⟨A', M2, ι2, q, s⟩ => ?_
    cases e with
    | normal =>
      obtain ⟨z, hz, hw⟩ := q
      obtain ⟨ι3, s3⟩ := hw M2 ι2 a2 w2 s
      refine ⟨⟨z, M2, ι3, s3⟩, ?_⟩
      have hex2 : ∃ n y M' ι', Sat C M' ι' (I y) a2 w2 ∧ μ y = n := ⟨_, z, M2, ι3, s3, rfl⟩
      simp only [hex2, dif_pos]
      generalize hch2 : Classical.choose (p := fun n => (∃ y M' ι', Sat C M' ι' (I y) a2 w2 ∧ μ y = n) ∧ ∀ m, (∃ y M' ι', Sat C M' ι' (I y) a2 w2 ∧ μ y = m) → n ≤ m) _ = n2
      have hspec2 : (∃ y M' ι', Sat C M' ι' (I y) a2 w2 ∧ μ y = n2) ∧ ∀ m, (∃ y M' ι', Sat C M' ι' (I y) a2 w2 ∧ μ y = m) → n2 ≤ m := by
        rw [← hch2]; exact Classical.choose_spec (p := fun n => (∃ y M' ι', Sat C M' ι' (I y) a2 w2 ∧ μ y = n) ∧ ∀ m, (∃ y M' ι', Sat C M' ι' (I y) a2 w2 ∧ μ y = m) → n ≤ m) _
      have := hspec2.2 (μ z) ⟨z, M2, ι3, s3, rfl⟩
      omega
    | _ => exact ⟨A', M2, ι2, q, s⟩
  exact key _ x0 rfl M ι a w hs

/-- The trace of a region: from a state, over the operations that are left. -/
def Tr (P : Program) (C : Ctx) (ops : Array Oper) (rest : List Oper) (st : A) (K : List FP → A → Prop) : Prop :=
  ∃ recs : List Rec, recs.map (·.o) = rest ∧ StepsOk P C.G C.N ops recs (look st.ρ) (lookO st.σ) (· ∈ st.ls) ∧
    ∃ A' : AM.A, (look A'.ρ = RT (look st.ρ) recs) ∧ (lookO A'.σ = RH (lookO st.σ) recs) ∧ (∀ l, RU (· ∈ st.ls) recs l → l ∈ A'.ls) ∧ K (recs.map (·.foot ops)) A'
theorem tr_nil {ops : Array Oper} {K : List FP → A → Prop} (h : K [] st) : Tr P C ops [] st K := ⟨[], rfl, trivial, st, rfl, rfl, fun _ h => h, h⟩

theorem tr_cons {ops : Array Oper} {o : Oper} {rest : List Oper} {K : List FP → A → Prop} (r : Rec) (ho : r.o = o) (hs : StepOk P C.G C.N ops r (look st.ρ) (lookO st.σ) (· ∈ st.ls))
    (h : Tr P C ops rest ⟨(match r.o.dst with | some d => (d, r.v) :: st.ρ | none => st.ρ), r.wr ++ st.σ, r.wr.map (·.1) ++ st.ls⟩ (fun fs x => K (r.foot ops :: fs) x)) : Tr P C ops (o :: rest) st K := by
  obtain ⟨recs, h1, h2, A', h3, h4, h5, h6⟩ := h
  have e1 : look (match r.o.dst with | some d => (d, r.v) :: st.ρ | none => st.ρ) = putT (look st.ρ) r.o.dst r.v := by
    cases hd : r.o.dst with
    | none => rfl
    | some d => exact look_put _ _ _
  have e2 : lookO (r.wr ++ st.σ) = Sto.upd (lookO st.σ) r.wr := lookO_upd _ _
  have e3 : (fun l => l ∈ r.wr.map (·.1) ++ st.ls) = (fun l => l ∈ st.ls ∨ l ∈ r.wr.map (·.1)) := funext fun l => propext (by rw [List.mem_append]; exact or_comm)
  simp only [] at h2 h3 h4 h5
  rw [e1, e2, e3] at h2
  rw [e1] at h3
  rw [e2] at h4
  rw [e3] at h5
  exact ⟨r :: recs, by simp [h1, ho], ⟨hs, h2⟩, A', h3, h4, h5, h6⟩

theorem StepsOk.less {G : Gl} {N : Nat} {ops : Array Oper} : ∀ {rs : List Rec} {ρ H} {u u' : Nat → Prop}, (∀ l, u' l → u l) → StepsOk P G N ops rs ρ H u → StepsOk P G N ops rs ρ H u'
  | [], _, _, _, _, _, _ => trivial
  | r :: rs, ρ, H, u, u', hu, h => by
    refine ⟨⟨h.1.1, ?_⟩, StepsOk.less (fun l hl => hl.imp (hu l) id) h.2⟩
    rcases h.1.2 with ⟨a, b, c, d, e⟩ | h'
    · exact .inl ⟨a, b, c, d, fun l h1 h2 h3 => e l h1 h2 (hu l h3)⟩
    · exact .inr h'

theorem ac_region {id : Nat} {ops : Array Oper} {draw : Bool} (hm : P.follows .mixedOrders = true) (h : Tr P C ops ops.toList st (fun fs x => (draw = true → chk ops fs = true) ∧ Q .normal x)) : AC P C (.region id ops draw) st Q := by
  obtain ⟨recs, h1, h2, A', h3, h4, h5, h6, h7⟩ := h
  intro M ι a w hs
  have h2' : StepsOk P C.G C.N ops recs (look st.ρ) (lookO st.σ) (fun l => ι l ≠ none) := h2.less fun l hl => hs.lab l hl
  have hlen : recs.length = ops.size := by rw [← Array.length_toList, ← h1, List.length_map]
  have fin : ∀ S M' ι' H' a' w', (∀ k, k < recs.length → S k) → RInv C.G C.N ops recs (look st.ρ) (lookO st.σ) ι C.E M S M' ι' H' a' w' → ∃ A' M' ι', Q .normal A' ∧ Sat C M' ι' A' a' w' := by
    intro S M' ι' H' a' w' hS hr
    obtain ⟨f1, f2⟩ := hr.final hS
    refine ⟨A', M', ι', h7, ⟨by rw [h4]; exact f1, hr.g, fun t v hv => f2 t v (by rw [← h3]; exact hv), fun l hl => h5 l ?_, hr.sz, hr.df, fun l hl bd hb => ?_⟩⟩
    · rw [RU_iff]
      by_cases hex : ∃ r ∈ recs, r.wl l
      · exact .inr hex
      · left
        refine hs.lab l ?_
        rw [← hr.lab l fun k r hk _ hw => hex ⟨r, List.mem_of_getElem? hk, hw⟩]
        exact hl
    · obtain ⟨b1, e1, e2⟩ := hs.kept l hl bd hb
      obtain ⟨b2, e3, e4⟩ := hr.gr.env l b1 e1
      refine ⟨b2, e3, ?_⟩
      rcases e2 with rfl | ⟨t1, t2, t3⟩
      · exact e4
      · rcases e4 with rfl | ⟨s1, s2, s3⟩
        · exact .inr ⟨t1, t2, t3⟩
        · exact .inr ⟨t1, s2, by omega⟩
  have hstart : ∀ w', w'.heap = w.heap → w'.os = w.os → w'.tape = w.tape → w'.output = w.output → RInv C.G C.N ops recs (look st.ρ) (lookO st.σ) ι C.E M (fun _ => False) M ι (lookO st.σ) a w' :=
    fun w' e1 e2 e3 e4 => RInv.start (hs.inv.of_heap e1 e2 e3 e4) hs.g hs.sz hs.df hs.tm
  cases draw with
  | false =>
    refine wp_region ?_
    have e0 : (fun k => k < 0) = fun _ : Nat => False := funext fun k => propext (by simp)
    rw [List.range_eq_range', ← hlen]
    exact region_text h2' h1 (fun M' ι' H' a' w' hr => fin _ M' ι' H' a' w' (fun k hk => hk) hr) recs.length 0 (by omega) M ι _ a w (by rw [e0]; exact hstart w rfl rfl rfl rfl)
  | true =>
    refine wp_region_any hm ?_
    have e0 : (fun k => (Array.replicate ops.size false).getD k false = true) = fun _ : Nat => False := funext fun k => propext (by
      simp only [Array.getD_eq_getD_getElem?, Array.getElem?_replicate]
      split <;> simp)
    refine region_any h2' h1 (h6 rfl) (fun M' ι' H' a' w' hr => fin _ M' ι' H' a' w' (fun k hk => trivial) hr) ops.size _ (by simp) ?_ ?_ M ι _ a _ (by rw [e0]; exact hstart _ rfl rfl rfl rfl)
    · refine Nat.le_trans (List.length_filter_le _ _) (by simp)
    · intro i o e _ hl
      simp only [Array.getD_eq_getD_getElem?, Array.getElem?_replicate] at hl
      split at hl <;> simp at hl
/-- A region that keeps the order of the text; one that does not; each with what follows. -/
theorem ac_t {id : Nat} {ops : Array Oper} (hm : P.follows .mixedOrders = true) (h : Tr P C ops ops.toList st (fun _ x => Q .normal x)) : AC P C (.region id ops false) st Q :=
  ac_region hm (by
    obtain ⟨r, h1, h2, A', h3, h4, h5, h6⟩ := h
    exact ⟨r, h1, h2, A', h3, h4, h5, ⟨(fun h => (by cases h)), h6⟩⟩)
theorem ac_d {id : Nat} {ops : Array Oper} (hm : P.follows .mixedOrders = true) (h : Tr P C ops ops.toList st (fun fs x => chk ops fs = true ∧ Q .normal x)) : AC P C (.region id ops true) st Q :=
  ac_region hm (by
    obtain ⟨r, h1, h2, A', h3, h4, h5, h6, h7⟩ := h
    exact ⟨r, h1, h2, A', h3, h4, h5, ⟨fun _ => h6, h7⟩⟩)
theorem ac_ts {id : Nat} {ops : Array Oper} {y : Code} (hm : P.follows .mixedOrders = true) (h : Tr P C ops ops.toList st (fun _ x => AC P C y x Q)) : AC P C (.seq (.region id ops false) y) st Q := ac_seq (ac_t hm h)
theorem ac_ds {id : Nat} {ops : Array Oper} {y : Code} (hm : P.follows .mixedOrders = true) (h : Tr P C ops ops.toList st (fun fs x => chk ops fs = true ∧ AC P C y x Q)) : AC P C (.seq (.region id ops true) y) st Q := ac_seq (ac_d hm h)
theorem ac_rets (y : Code) (h : Q .ret st) : AC P C (.seq .ret y) st Q := ac_seq (ac_ret h)
end rules
end Go.AM

/-
  The walk, reckoned: code, joins, loops, bodies; and the words in which a function is printed.
  How plain data lies in cells: the words and their laws.
  The words of printed functions, reckoned out: loops that push, loops that fold, recursions.
-/
import Derived.Test.YtdbgmmeenljnoaaGreatDoorAnC
import Derived.Test.YtdbgmmeenljnoaaGreatDoorAmM
set_option linter.unusedVariables false
set_option linter.unusedSimpArgs false
namespace Go.AM
open Go Go.RowKit

/-! ### The words of a printed function -/
section words
variable {α β X R : Type}
def bnd (x : Option α) (k : α → Option R) : Option R := match x with
  | some a => k a
  | none => none
theorem bndB {x : Option α} {k : α → Option R} {r : R} (h : bnd x k = some r) : ∃ a, x = some a ∧ k a = some r := by
  cases x with
  | none => cases h
  | some a => exact ⟨a, rfl, h⟩
@[simp] theorem bnd_some (a : α) (k : α → Option R) : bnd (some a) k = k a := rfl
def idx (l : List α) (i : Int) (k : α → Option R) : Option R := match i with
  | .ofNat j => match l[j]? with
    | some a => k a
    | none => none
  | .negSucc _ => none
theorem idxB {l : List α} {i : Int} {k : α → Option R} {r : R} (h : idx l i k = some r) : ∃ a, 0 ≤ i ∧ l[i.toNat]? = some a ∧ k a = some r := by
  unfold idx at h
  split at h
  · rename_i j
    split at h
    · rename_i a ha; exact ⟨a, Int.natCast_nonneg _, ha, h⟩
    · cases h
  · cases h
theorem idx_nat {l : List α} {i : Nat} {k : α → Option R} {a : α} (h : l[i]? = some a) : idx l (i : Int) k = k a := by
  show (match l[i]? with | some a => k a | none => none) = _
  rw [h]
theorem idx_int {l : List α} {i : Int} {k : α → Option R} {a : α} (h0 : 0 ≤ i) (h : l[i.toNat]? = some a) : idx l i k = k a := by
  obtain ⟨j, rfl⟩ := Int.eq_ofNat_of_zero_le h0
  exact idx_nat h
def gd (n : Nat) (x : Option R) : Option R := match Nat.ble n 2000000000 with
  | true => x
  | false => none
theorem gdB {n : Nat} {x : Option R} {r : R} (h : gd n x = some r) : n ≤ 2000000000 ∧ x = some r := by
  unfold gd at h
  split at h
  · rename_i e; exact ⟨Nat.le_of_ble_eq_true e, h⟩
  · cases h
theorem gd_ok {n : Nat} {x : Option R} (h : n ≤ 2000000000) : gd n x = x := by unfold gd; rw [Nat.ble_eq_true_of_le h]
def nz (y : Int) (x : Option R) : Option R := match y with
  | .ofNat 0 => none
  | _ => x
theorem nzB {y : Int} {x : Option R} {r : R} (h : nz y x = some r) : y ≠ 0 ∧ x = some r := by
  unfold nz at h
  split at h
  · cases h
  · rename_i hn; exact ⟨fun e => hn (by rw [e]; rfl), h⟩
theorem nz_ok {y : Int} {x : Option R} (h : y ≠ 0) : nz y x = x := by
  unfold nz
  split
  · exact absurd rfl h
  · rfl
def cut (l : List α) (lo hi : Int) (k : List α → Option R) : Option R := match decide (0 ≤ lo), decide (lo ≤ hi), decide (hi ≤ l.length) with
  | true, true, true => k ((l.take hi.toNat).drop lo.toNat)
  | _, _, _ => none
theorem cutB {l : List α} {lo hi : Int} {k : List α → Option R} {r : R} (h : cut l lo hi k = some r) : 0 ≤ lo ∧ lo ≤ hi ∧ hi ≤ l.length ∧ k ((l.take hi.toNat).drop lo.toNat) = some r := by
  unfold cut at h
  split at h
  · rename_i e1 e2 e3; exact ⟨of_decide_eq_true e1, of_decide_eq_true e2, of_decide_eq_true e3, h⟩
  · cases h
theorem cut_ok {l : List α} {lo hi : Int} {k : List α → Option R} (h0 : 0 ≤ lo) (h1 : lo ≤ hi) (h2 : hi ≤ l.length) : cut l lo hi k = k ((l.take hi.toNat).drop lo.toNat) := by
  unfold cut; rw [decide_eq_true h0, decide_eq_true h1, decide_eq_true h2]
/-- A place of few. -/
def sw (i : Int) : Nat → List (Unit → Option R) → Option R
  | _, [] => none
  | m, f :: l => cond (i == (m : Int)) (f ()) (sw i (m + 1) l)
theorem swc {i : Int} {m : Nat} {f : Unit → Option R} {l : List (Unit → Option R)} {r : R} {C : Prop} (h : sw i m (f :: l) = some r) (a : f () = some r → i = (m : Int) → C) (b : sw i (m + 1) l = some r → C) : C := by
  unfold sw at h
  cases hi : i == (m : Int) with
  | true => rw [hi] at h; exact a h (eq_of_beq hi)
  | false => rw [hi] at h; exact b h
def loopL (fin : X → Option R) (step : (X → Option R) → Nat → α → X → Option R) : Nat → List α → X → Option R
  | _, [], x => fin x
  | i, a :: as, x => step (loopL fin step (i + 1) as) i a x
def loopN (step : (X → Option R) → X → Option R) : Nat → X → Option R
  | 0, _ => none
  | m + 1, x => step (loopN step m) x
def fixO (body : (α → Option R) → α → Option R) : Nat → α → Option R
  | 0, _ => none
  | m + 1, a => body (fixO body m) a
/-- More rounds than any call takes. -/
def FU : Nat := 1000000000
end words

/-! ### Code -/
structure W (P : Program) (C : Ctx) (c : Code) (st : A) (Q : Exit → A → Prop) : Prop where
  ac : AC P C c st Q
structure Prg (P : Program) (T : TT) : Prop where
  mixed : P.follows .mixedOrders = true
  tok : TOk P T
def setK (c : Operand) (b : Bool) (st : A) (k : A → Prop) : Prop := match c, st with
  | .tmp t, ⟨ρ, σ, ls⟩ => k ⟨(t, .d (.bool b)) :: ρ, σ, ls⟩
  | _, st => k st
/-- A state, forced. -/
def fR (ρ : List (Nat × V)) (k : List (Nat × V) → Prop) : Prop := match ρ with
  | [] => k []
  | (t, v) :: r => fV v fun v => fR r fun r => k ((t, v) :: r)
def fG (σ : List (Nat × Option O)) (k : List (Nat × Option O) → Prop) : Prop := match σ with
  | [] => k []
  | (l, some o) :: r => fO o fun o => fG r fun r => k ((l, some o) :: r)
  | (l, none) :: r => fG r fun r => k ((l, none) :: r)
def fL (ls : List Nat) (k : List Nat → Prop) : Prop := match ls with
  | [] => k []
  | x :: r => fL r fun r => k (x :: r)
def fA (st : A) (k : A → Prop) : Prop := match st with
  | ⟨ρ, σ, ls⟩ => fR ρ fun ρ => fG σ fun σ => fL ls fun ls => k ⟨ρ, σ, ls⟩
theorem fR_iff : ∀ {ρ : List (Nat × V)} {k : List (Nat × V) → Prop}, fR ρ k ↔ k ρ
  | [], k => Iff.rfl
  | (t, v) :: r, k => by unfold fR; rw [fV_iff, fR_iff]
theorem fG_iff : ∀ {σ : List (Nat × Option O)} {k : List (Nat × Option O) → Prop}, fG σ k ↔ k σ
  | [], k => Iff.rfl
  | (l, some o) :: r, k => by unfold fG; rw [fO_iff, fG_iff]
  | (l, none) :: r, k => by unfold fG; rw [fG_iff]
theorem fL_iff : ∀ {ls : List Nat} {k : List Nat → Prop}, fL ls k ↔ k ls
  | [], k => Iff.rfl
  | x :: r, k => by unfold fL; rw [fL_iff]
theorem fA_iff {st : A} {k : A → Prop} : fA st k ↔ k st := by obtain ⟨ρ, σ, ls⟩ := st; show (fR ρ fun ρ => fG σ fun σ => fL ls fun ls => k ⟨ρ, σ, ls⟩) ↔ _; rw [fR_iff, fG_iff, fL_iff]
theorem Sat.known {C : Ctx} {M : Mem} {ι : Env} {st : A} {a : Act} {w : World} (h : Sat C M ι st a w) {t : Nat} {v : V} (hl : look st.ρ t = some v) : Sat C M ι ⟨(t, v) :: st.ρ, st.σ, st.ls⟩ a w :=
  ⟨h.inv, h.g, fun t' u hu => by
    rw [look_cons] at hu
    split at hu
    · rename_i e; injection hu with hu; subst hu; subst e; exact h.tm _ _ hl
    · exact h.tm _ _ hu, h.lab, h.sz, h.df, h.kept⟩
inductive JoinTo {X R : Type} (F : X → Option R) (r : R) (C : Ctx) (J : X → A) (s : A) : Prop
  | mk (x : X) (h : F x = some r) (w : Weak C s (J x))
def coR (ρ : List (Nat × V)) : List (Nat × V) → List (Nat × V)
  | [] => []
  | (t, v) :: r => match lk ρ t with
    | some u => (t, coV v u) :: coR ρ r
    | none => []
def coS (σ : List (Nat × Option O)) : List (Nat × Option O) → List (Nat × Option O)
  | [] => []
  | (l, some o) :: r => match lo σ l with
    | some a => (l, some (coO o a)) :: coS σ r
    | none => []
  | (l, none) :: r => []
theorem coR_le {ρ : List (Nat × V)} : ∀ {ρ' : List (Nat × V)}, coR ρ ρ' = ρ' → RhoLe ρ ρ'
  | [], _ => trivial
  | (t, v) :: r, h => by
    unfold coR at h
    split at h
    · rename_i u hu
      simp only [List.cons.injEq, Prod.mk.injEq, true_and] at h
      refine ⟨⟨u, by rw [← lk_eq]; exact hu, ?_⟩, coR_le h.2⟩
      have := coV_le v u
      rwa [h.1] at this
    · cases h
theorem coS_le {σ : List (Nat × Option O)} : ∀ {σ' : List (Nat × Option O)}, coS σ σ' = σ' → SigLe σ σ'
  | [], _ => trivial
  | (l, some o) :: r, h => by
    unfold coS at h
    split at h
    · rename_i u hu
      simp only [List.cons.injEq, Prod.mk.injEq, true_and, Option.some.injEq] at h
      refine ⟨⟨u, by rw [← lo_eq]; exact hu, ?_⟩, coS_le h.2⟩
      have := coO_le o u
      rwa [h.1] at this
    · cases h
  | (l, none) :: r, h => by simp [coS] at h
def onB (C : Ctx) (y : A) : Bool := rhoOn y.ls y.ρ && sigOn y.ls y.σ && subB C.keep y.ls
theorem weak_co {C : Ctx} {x y : A} (h1 : coR x.ρ y.ρ = y.ρ) (h2 : coS x.σ y.σ = y.σ) (h3 : onB C y = true) : Weak C x y := by
  simp only [onB, Bool.and_eq_true] at h3
  exact weak_of (coR_le h1) (coS_le h2) h3.1.1 h3.1.2 h3.2
theorem jt {X R : Type} {F : X → Option R} {r : R} {C : Ctx} {J : X → A} {s : A} (x : X) (h : F x = some r) (h1 : coR s.ρ (J x).ρ = (J x).ρ) (h2 : coS s.σ (J x).σ = (J x).σ) (h3 : onB C (J x) = true) : JoinTo F r C J s := ⟨x, h, weak_co h1 h2 h3⟩

section
variable {P : Program} {C : Ctx} {T : TT} {st : A} {ρ : List (Nat × V)} {σ : List (Nat × Option O)} {ls : List Nat} {Q : Exit → A → Prop} {X R α : Type} {x y c : Code} {id : Nat} {ops : Array Oper} {r : R}
theorem wk {st' : A} (h1 : coR st.ρ st'.ρ = st'.ρ) (h2 : coS st.σ st'.σ = st'.σ) (h3 : onB C st' = true) (h : W P C c st' Q) : W P C c st Q := ⟨ac_weak (weak_co h1 h2 h3) h.ac⟩
theorem Tr.mono {all : Array Oper} {rest : List Oper} {K K' : List FP → A → Prop} (h : Tr P C all rest st K) (hk : ∀ f x, K f x → K' f x) : Tr P C all rest st K' := by
  obtain ⟨recs, h1, h2, A', h3, h4, h5, h6⟩ := h
  exact ⟨recs, h1, h2, A', h3, h4, h5, hk _ _ h6⟩
theorem rg (pg : Prg P T) (h : regW P ops T C.G C.N ops.toList ρ σ ls fun _ a b c => W P C y ⟨a, b, c⟩ Q) : W P C (.seq (.region id ops false) y) ⟨ρ, σ, ls⟩ Q :=
  ⟨ac_ts pg.mixed ((regW_ok pg.tok h).mono fun _ _ h => h.ac)⟩
theorem rgd (pg : Prg P T) (h : regW P ops T C.G C.N ops.toList ρ σ ls fun fs a b c => Ask (chk ops fs = true) (W P C y ⟨a, b, c⟩ Q)) : W P C (.seq (.region id ops true) y) ⟨ρ, σ, ls⟩ Q :=
  ⟨ac_ds pg.mixed ((regW_ok pg.tok h).mono fun _ _ h => ⟨h.a, h.k.ac⟩)⟩
theorem rl (pg : Prg P T) (h : regW P ops T C.G C.N ops.toList ρ σ ls fun _ a b c => Q .normal ⟨a, b, c⟩) : W P C (.region id ops false) ⟨ρ, σ, ls⟩ Q :=
  ⟨ac_t pg.mixed (regW_ok pg.tok h)⟩
theorem rld (pg : Prg P T) (h : regW P ops T C.G C.N ops.toList ρ σ ls fun fs a b c => Ask (chk ops fs = true) (Q .normal ⟨a, b, c⟩)) : W P C (.region id ops true) ⟨ρ, σ, ls⟩ Q :=
  ⟨ac_d pg.mixed ((regW_ok pg.tok h).mono fun _ _ h => ⟨h.a, h.k⟩)⟩
theorem sk (h : Q .normal st) : W P C .skip st Q := ⟨ac_skip h⟩
theorem ex (h : Q (.exit id) st) : W P C (.exit id) st Q := ⟨ac_exit h⟩
theorem rt (h : Q .ret st) : W P C .ret st Q := ⟨ac_ret h⟩
theorem rts (h : Q .ret st) : W P C (.seq .ret y) st Q := ⟨ac_rets _ h⟩
theorem AC.mono_w {c : Code} {st : A} {Q Q' : Exit → A → Prop} (h : W P C c st Q) (hq : ∀ e x, Q e x → Q' e x) : AC P C c st Q' := ac_mono h.ac hq
theorem thenW {K : A → Prop} {K' : A → Prop} (hk : ∀ s, K s → K' s) : ∀ e x, thenQ K Q e x → thenQ K' Q e x := fun e x h => by
  cases e <;> first | exact hk _ h | exact h
theorem sq (h : W P C x st (thenQ (fun s => W P C y s Q) Q)) : W P C (.seq x y) st Q := ⟨ac_seq (AC.mono_w h (thenW fun _ h => h.ac))⟩
theorem bk (h : W P C c st (blockQ id Q)) : W P C (.block id c) st Q := ⟨ac_block h.ac⟩
theorem W.setK {o : Operand} {b : Bool} (ho : opV C.G st.ρ o = some (.d (.bool b))) (h : AM.setK o b st fun st => W P C c st Q) : W P C c st Q := by
  cases o with
  | tmp t =>
    obtain ⟨ρ, σ, ls⟩ := st
    exact ⟨fun M ι a w hs => h.ac M ι a w (hs.known (by rw [opV_eq] at ho; exact ho))⟩
  | _ => exact h
theorem cd {o : Operand} {b : Bool} {F G : Option R} (h : cond b F G = some r) (ho : opV C.G st.ρ o = some (.d (.bool b))) (ht : F = some r → b = true → setK o true st fun st => W P C x st Q) (hf : G = some r → b = false → setK o false st fun st => W P C y st Q) : W P C (.cond o x y) st Q := by
  refine ⟨ac_cond (b := b) (by rw [← opV_eq]; exact ho) (fun e => ?_) (fun e => ?_)⟩
  · subst e; exact (W.setK ho (ht h rfl)).ac
  · subst e; exact (W.setK ho (hf h rfl)).ac
/-- A test whose outcome is known. -/
theorem cdE {o : Operand} {b v : Bool} (hb : b = v) (ho : opV C.G st.ρ o = some (.d (.bool b))) (h : setK o v st fun st => W P C (match v with | true => x | false => y) st Q) : W P C (.cond o x y) st Q := by
  subst hb
  refine ⟨ac_cond (b := b) (by rw [← opV_eq]; exact ho) (fun e => ?_) (fun e => ?_)⟩
  · subst e; exact (W.setK ho h).ac
  · subst e; exact (W.setK ho h).ac
theorem cdT {o : Operand} (ho : opV C.G st.ρ o = some (.d (.bool true))) (h : W P C x st Q) : W P C (.cond o x y) st Q :=
  ⟨ac_cond (b := true) (by rw [← opV_eq]; exact ho) (fun e => h.ac) (fun e => by cases e)⟩
theorem cdF {o : Operand} (ho : opV C.G st.ρ o = some (.d (.bool false))) (h : W P C y st Q) : W P C (.cond o x y) st Q :=
  ⟨ac_cond (b := false) (by rw [← opV_eq]; exact ho) (fun e => by cases e) (fun e => h.ac)⟩
theorem join (J : X → A) (F : X → Option R) (r : R) (hx : W P C x st (thenQ (fun s => JoinTo F r C J s) Q)) (hy : ∀ a, F a = some r → fA (J a) fun st => W P C y st Q) : W P C (.seq x y) st Q :=
  ⟨ac_seq (AC.mono_w hx (thenW fun s h => by obtain ⟨a, h1, h2⟩ := h; exact ac_weak h2 (fA_iff.1 (hy a h1)).ac))⟩
theorem loopK (J : X → A) {step : (X → Option R) → X → Option R} {x0 : X} {m : Nat} (h : loopN step m x0 = some r) (h1 : coR st.ρ (J x0).ρ = (J x0).ρ) (h2 : coS st.σ (J x0).σ = (J x0).σ) (h3 : onB C (J x0) = true)
    (hb : ∀ (k : X → Option R) a, step k a = some r → fA (J a) fun st => W P C c st (thenQ (fun s => JoinTo k r C J s) Q)) : W P C (.loop c) st Q := by
  refine ⟨ac_loop (fun p : { p : Nat × X // loopN step p.1 p.2 = some r } => J p.1.2) (fun p => p.1.1) ⟨(m, x0), h⟩ (weak_co h1 h2 h3) ?_⟩
  rintro ⟨⟨m, a⟩, hm⟩
  cases m with
  | zero => cases hm
  | succ m =>
    refine AC.mono_w (fA_iff.1 (hb (loopN step m) a hm)) (thenW fun s hs => ?_)
    obtain ⟨a', h1, h2⟩ := hs
    exact ⟨⟨(m, a'), h1⟩, Nat.lt_succ_self _, h2⟩
def tmpS (ρ : List (Nat × V)) (t : Nat) : Option (List (List D)) := match lk ρ t with
  | some v => sliceOf v
  | none => none
theorem tmpS_len {M : Mem} {ι : Env} {a : Act} {w : World} (h : Sat C M ι st a w) {t : Nat} {es : List (List D)} (hs : tmpS st.ρ t = some es) : es.length < 9223372036854775808 := by
  unfold tmpS at hs
  split at hs
  · rename_i v hv
    rw [lk_eq] at hv
    have := (sliceOf_is hs).rep (h.tm t v hv)
    simp only [RepD] at this
    obtain ⟨_, _, _, _, _, h3, _⟩ := this
    simp only [maxLen] at h3
    omega
  · cases hs
theorem i64_succ' {i : Nat} (h : i + 1 < 9223372036854775808) : IntKind.i64.wrap ((i : Int) + 1) = ((i + 1 : Nat) : Int) := by
  rw [i64_id (by omega) (by omega)]; omega
theorem loopL_drop {fin : X → Option R} {step : (X → Option R) → Nat → α → X → Option R} {l : List α} {i : Nat} {a : α} (h : l[i]? = some a) (x : X) : loopL fin step i (l.drop i) x = step (loopL fin step (i + 1) (l.drop (i + 1))) i a x := by
  obtain ⟨hlt, he⟩ := List.getElem?_eq_some_iff.1 h
  rw [List.drop_eq_getElem_cons hlt, he]
  rfl
theorem rangeK {B0 B1 rc ri ti tn tc tp : Nat} {ty1 ty2 ty3 ty4 ty5 ty6 ty7 : TypeId} {p1 p2 p3 : String} {a1 a2 a3 : Array Edge} {body : Code} (pg : Prg P T) (l : List α) (n : Nat) (hn : n = l.length) (ρf : X → List (Nat × V)) (σf : X → List (Nat × Option O)) (lf : List Nat)
    {fin : X → Option R} {step : (X → Option R) → Nat → α → X → Option R} {x0 : X} (h : loopL fin step 0 l x0 = some r)
    (h1 : coR st.ρ ((ti, .d (.int .i64 0)) :: (tn, .d (.int .i64 n)) :: ρf x0) = (ti, .d (.int .i64 0)) :: (tn, .d (.int .i64 n)) :: ρf x0) (h2 : coS st.σ (σf x0) = σf x0) (h3 : onB C ⟨ρf x0, σf x0, lf⟩ = true)
    (hd : (Nat.blt tc C.N && Nat.blt tp C.N && Nat.blt ti C.N && !Nat.beq tn ti && !Nat.beq tc ti && !Nat.beq tc tn && !Nat.beq tp ti && !Nat.beq tp tn) = true) (hfree : ∀ x, lk (ρf x) tc = none ∧ lk (ρf x) tp = none) (ts : Nat) {es : List (List D)} (hs : tmpS st.ρ ts = some es) (hes : es.length = l.length)
    (hbody : ∀ (k : X → Option R) i a x, i < n → l[i]? = some a → step k i a x = some r → fA ⟨(ti, .d (.int .i64 i)) :: (tn, .d (.int .i64 n)) :: ρf x, σf x, lf⟩ fun st => W P C body st (blockQ B1 (thenQ (fun s => JoinTo k r C (fun x => ⟨(ti, .d (.int .i64 i)) :: (tn, .d (.int .i64 n)) :: ρf x, σf x, lf⟩) s) (blockQ B0 Q))))
    (hend : ∀ x, fin x = some r → fA ⟨(tc, .d (.bool false)) :: (ti, .d (.int .i64 n)) :: (tn, .d (.int .i64 n)) :: ρf x, σf x, lf⟩ (Q .normal)) :
    W P C (.block B0 (.loop (.seq (.region rc #[⟨some tc, .binOp .lss ty1 (.tmp ti) (.tmp tn) ty2, ty3, p1, a1, none⟩] false) (.seq (.cond (.tmp tc) .skip (.exit B0)) (.seq (.block B1 body)
      (.region ri #[⟨some tp, .binOp .add ty4 (.tmp ti) (.const (.int .i64 1)) ty5, ty6, p2, a2, none⟩, ⟨some ti, .move (.tmp tp), ty7, p3, a3, none⟩] false)))))) st Q := by
  subst hn
  have hm := pg.mixed
  simp only [Bool.and_eq_true, Bool.not_eq_true'] at hd
  obtain ⟨⟨⟨⟨⟨⟨⟨d1, d2⟩, d3⟩, d4⟩, d5⟩, d6⟩, d7⟩, d8⟩ := hd
  have ne : ∀ {a b : Nat}, Nat.beq a b = false → a ≠ b := fun h e => by subst e; rw [Nat.beq_refl] at h; cases h
  have e4 := ne d4; have e5 := ne d5; have e6 := ne d6; have e7 := ne d7; have e8 := ne d8
  have hw : Weak C st ⟨(ti, .d (.int .i64 (0 : Nat))) :: (tn, .d (.int .i64 l.length)) :: ρf x0, σf x0, lf⟩ := by
    simp only [onB, Bool.and_eq_true] at h3
    refine weak_of (coR_le h1) (coS_le h2) ?_ h3.1.2 h3.2
    simp only [rhoOn, V.on, Bool.true_and]; exact h3.1.1
  refine ⟨fun M0 ι0 a0 w0 hs0 => ?_⟩
  have hlen : l.length < 9223372036854775808 := by rw [← hes]; exact tmpS_len hs0 hs
  suffices hgo : AC P C _ st Q from hgo M0 ι0 a0 w0 hs0
  clear hs0
  refine ac_block (ac_loop (fun p : { p : Nat × X // p.1 ≤ l.length ∧ loopL fin step p.1 (l.drop p.1) p.2 = some r } => ⟨(ti, .d (.int .i64 p.1.1)) :: (tn, .d (.int .i64 l.length)) :: ρf p.1.2, σf p.1.2, lf⟩) (fun p => l.length - p.1.1) ⟨(0, x0), Nat.zero_le _, h⟩ hw ?_)
  rintro ⟨⟨i, x⟩, hi, hIi⟩
  dsimp only at hi hIi ⊢
  refine ac_ts hm ?_
  refine t_bin (k := .i64) (i := i) (j := l.length) (by simp [opd, look_cons]) (by simp [opd, look_cons, e4, Ne.symm e4]) .lss rfl (by simpa [dstOk] using d1) ?_
  refine tr_nil ?_
  refine ac_seq ?_
  refine ac_cond (b := decide ((i : Int) < l.length)) (by show look ((tc, _) :: _) tc = _; rw [look_cons, if_pos rfl]) (fun hb => ?_) (fun hb => ?_)
  · have hlt : i < l.length := by simpa using hb
    refine ac_skip ?_
    change AC _ _ _ _ _
    refine ac_seq (ac_block ?_)
    have w0 : Weak C ⟨putL ((ti, .d (.int .i64 i)) :: (tn, .d (.int .i64 l.length)) :: ρf x) (some tc) (.d (.bool (decide ((i : Int) < l.length)))), σf x, lf⟩ ⟨(ti, .d (.int .i64 i)) :: (tn, .d (.int .i64 l.length)) :: ρf x, σf x, lf⟩ := by
      have f1 := (hfree x).1
      rw [lk_eq] at f1
      intro M ι a w hs
      refine ⟨M, ι, ⟨hs.inv, hs.g, fun t v hv => hs.tm t v ?_, hs.lab, hs.sz, hs.df, hs.kept⟩⟩
      simp only [putL, look_cons] at hv ⊢
      by_cases e : tc = t
      · subst e
        rw [if_neg (fun x => e5 x.symm), if_neg (fun x => e6 x.symm)] at hv
        rw [f1] at hv; cases hv
      · rw [if_neg e]; exact hv
    have hget : l[i]? = some l[i] := List.getElem?_eq_getElem hlt
    rw [loopL_drop hget] at hIi
    refine ac_weak w0 (AC.mono_w (fA_iff.1 (hbody _ i l[i] x hlt hget hIi)) ?_)
    intro e s hq
    have step' : JoinTo (loopL fin step (i + 1) (l.drop (i + 1))) r C (fun x => ⟨(ti, .d (.int .i64 i)) :: (tn, .d (.int .i64 l.length)) :: ρf x, σf x, lf⟩) s → AC P C (.region ri #[⟨some tp, .binOp .add ty4 (.tmp ti) (.const (.int .i64 1)) ty5, ty6, p2, a2, none⟩, ⟨some ti, .move (.tmp tp), ty7, p3, a3, none⟩] false) s
        (thenQ (fun s => ∃ y : { p : Nat × X // p.1 ≤ l.length ∧ loopL fin step p.1 (l.drop p.1) p.2 = some r }, l.length - y.1.1 < l.length - i ∧ Weak C s ⟨(ti, .d (.int .i64 y.1.1)) :: (tn, .d (.int .i64 l.length)) :: ρf y.1.2, σf y.1.2, lf⟩) (blockQ B0 Q)) := by
      rintro ⟨x', hx', hw'⟩
      refine ac_weak hw' (ac_t hm ?_)
      refine t_bin (k := .i64) (i := i) (j := 1) (by simp [opd, look_cons]) rfl .add rfl (by simpa [dstOk] using d2) ?_
      refine t_move (v := .d (.int .i64 (IntKind.i64.wrap ((i : Int) + 1)))) (by show look ((tp, _) :: _) tp = _; rw [look_cons, if_pos rfl]) rfl (by simpa [dstOk] using d3) ?_
      refine tr_nil ?_
      refine ⟨⟨(i + 1, x'), hlt, hx'⟩, by show l.length - (i + 1) < l.length - i; omega, ?_⟩
      have g2 := (hfree x').2
      rw [lk_eq] at g2
      intro M ι a w hs
      refine ⟨M, ι, ⟨hs.inv, hs.g, fun t v hv => hs.tm t v ?_, hs.lab, hs.sz, hs.df, hs.kept⟩⟩
      simp only [putL, look_cons] at hv ⊢
      by_cases e1 : ti = t
      · rw [if_pos e1] at hv ⊢
        rw [i64_succ' (by omega)]; exact hv
      · rw [if_neg e1] at hv ⊢
        by_cases e2 : tp = t
        · subst e2
          rw [if_neg (fun x => e8 x.symm)] at hv
          rw [g2] at hv; cases hv
        · rw [if_neg e2, if_neg e1]; exact hv
    cases e with
    | normal => exact step' hq
    | exit k =>
      simp only [blockQ] at hq ⊢
      by_cases hk : k = B1
      · rw [if_pos hk] at hq ⊢; exact step' hq
      · rw [if_neg hk] at hq ⊢
        exact hq
    | _ => exact hq
  · have hge : i = l.length := by
      have : ¬ ((i : Int) < l.length) := by simpa using hb
      omega
    subst hge
    refine ac_exit ?_
    rw [List.drop_length] at hIi
    have hq := fA_iff.1 (hend x hIi)
    rw [← hb] at hq
    simp only [thenQ, blockQ, if_true]
    exact hq
end

/-! ### Bodies -/
def retL (T : TT) (A' : A) : List ResultVar → Option (List V)
  | [] => some []
  | .tmp t :: r => match lk A'.ρ t with
    | none => none
    | some v => match retL T A' r with
      | none => none
      | some vs => some (v :: vs)
  | .cell p t :: r => match lk A'.ρ p with
    | some (.ptr l off) => match T.get t, lo A'.σ l, Nat.beq off 0 with
      | some i, some (.cells vs _), true => match i.agg with
        | true => match Nat.beq vs.length i.size with
          | true => match retL T A' r with
            | none => none
            | some us => some (.agg vs :: us)
          | false => none
        | false => match vs with
          | [v] => match retL T A' r with
            | none => none
            | some us => some (v :: us)
          | _ => none
      | _, _, _ => none
    | _ => none
theorem retL_ok {P : Program} {T : TT} (hT : TOk P T) {A' : A} : ∀ {rs : List ResultVar} {vs : List V}, retL T A' rs = some vs → RetV P A' rs vs
  | [], vs, h => by simp only [retL, Option.some.injEq] at h; exact h.symm
  | .tmp t :: r, vs, h => by
    unfold retL at h
    split at h
    · cases h
    · rename_i v hv
      split at h
      · cases h
      · rename_i us hu
        injection h with h; subst h
        exact ⟨v, us, rfl, by rw [← lk_eq]; exact hv, retL_ok hT hu⟩
  | .cell p t :: r, vs, h => by
    unfold retL at h
    split at h
    · rename_i l off hp
      split at h
      · rename_i i cs tc hi ho hz
        have hz := Nat.eq_of_beq_eq_true hz
        subst hz
        have hty := (hT _ _ hi).ty
        rw [lk_eq] at hp
        rw [lo_eq] at ho
        split at h
        · rename_i ha
          rw [ha] at hty
          split at h
          · rename_i hl
            split at h
            · cases h
            · rename_i us hu
              injection h with h; subst h
              exact ⟨_, us, l, cs, tc, rfl, hp, ho, .inl (retAgg hty (Nat.eq_of_beq_eq_true hl)), retL_ok hT hu⟩
          · cases h
        · rename_i ha
          rw [ha] at hty
          split at h
          · rename_i v
            split at h
            · cases h
            · rename_i us hu
              injection h with h; subst h
              exact ⟨v, us, l, [v], tc, rfl, hp, ho, .inr (retOne hty), retL_ok hT hu⟩
          · cases h
      · cases h
    · cases h
def retW (T : TT) (A' : A) (rs : List ResultVar) : Option V := match retL T A' rs with
  | some vs => some (plV (oneV vs))
  | none => none
inductive EndW (C : Ctx) (T : TT) (rs : List ResultVar) (ret : V) (σ' : List (Nat × O)) (ex : Exit) (A' : A) : Prop
  | mk (hex : ex = .normal ∨ ex = .ret) {y : A} (hw : Weak C A' y) (hv : retW T y rs = some ret) (hs : selO y.σ σ' = σ')
theorem en {C : Ctx} {T : TT} {rs : List ResultVar} {ret : V} {σ' : List (Nat × O)} {A' : A} (hv : retW T A' rs = some ret) (hs : selO A'.σ σ' = σ') : EndW C T rs ret σ' .ret A' := ⟨.inr rfl, Weak.refl _, hv, hs⟩
theorem enN {C : Ctx} {T : TT} {rs : List ResultVar} {ret : V} {σ' : List (Nat × O)} {A' : A} (hv : retW T A' rs = some ret) (hs : selO A'.σ σ' = σ') : EndW C T rs ret σ' .normal A' := ⟨.inl rfl, Weak.refl _, hv, hs⟩
theorem enz {C : Ctx} {T : TT} {rs : List ResultVar} {ret : V} {σ' : List (Nat × O)} {A' y : A} (hw : Weak C A' y) (hv : retW T y rs = some ret) (hs : selO y.σ σ' = σ') : EndW C T rs ret σ' .ret A' := ⟨.inr rfl, hw, hv, hs⟩
theorem enzN {C : Ctx} {T : TT} {rs : List ResultVar} {ret : V} {σ' : List (Nat × O)} {A' y : A} (hw : Weak C A' y) (hv : retW T y rs = some ret) (hs : selO y.σ σ' = σ') : EndW C T rs ret σ' .normal A' := ⟨.inl rfl, hw, hv, hs⟩
/-- A row that was written is frozen. -/
theorem wz {C : Ctx} {s : A} (J : A) (l k : Nat) {es : List (List D)} {sz : Nat} {t : TypeId} (h1 : coR s.ρ J.ρ = J.ρ) (h2 : coS s.σ J.σ = J.σ) (h3 : onB C J = true) (ho : lo J.σ l = some (.arr es sz t)) (hk : frAN l J = List.replicate k es.length) : Weak C s (frA l es sz t J) :=
  (weak_co h1 h2 h3).trans (weak_freeze l k (by rw [← lo_eq]; exact ho) hk)
theorem jtz {X R : Type} {F : X → Option R} {r : R} {C : Ctx} {J : X → A} {s y : A} (x : X) (h : F x = some r) (hw : Weak C s y) (h1 : coR y.ρ (J x).ρ = (J x).ρ) (h2 : coS y.σ (J x).σ = (J x).σ) (h3 : onB C (J x) = true) : JoinTo F r C J s := ⟨x, h, hw.trans (weak_co h1 h2 h3)⟩
theorem fz {P : Program} {C : Ctx} {c : Code} {st y : A} {Q : Exit → A → Prop} (hw : Weak C st y) (h : fA y fun st => W P C c st Q) : W P C c st Q := ⟨ac_weak hw (fA_iff.1 h).ac⟩
/-- A label by which the reckoning is told that a row will be written. -/
theorem hint {P : Program} {C : Ctx} {c : Code} {ρ : List (Nat × V)} {σ : List (Nat × Option O)} {ls : List Nat} {Q : Exit → A → Prop} (L : Nat) (h : W P C c ⟨ρ, σ, L :: ls⟩ Q) : W P C c ⟨ρ, σ, ls⟩ Q :=
  ⟨ac_weak (x := ⟨ρ, σ, L :: ls⟩) (fun M ι a w hs => ⟨M, ι, ⟨hs.inv, hs.g, hs.tm, fun l hl => List.mem_cons_of_mem _ (hs.lab l hl), hs.sz, hs.df, hs.kept⟩⟩) h.ac⟩
def evChk (args : List V) (σ : List (Nat × O)) (ret : V) (σ' : List (Nat × O)) (N : Nat) : Bool :=
  Nat.ble args.length N && V.onAll (σ.map (·.1)) args && onSto (σ.map (·.1)) σ && ret.on ((σ ++ σ').map (·.1)) && onSto ((σ ++ σ').map (·.1)) σ'
theorem evb {P : Program} {T : TT} {G : Gl} (pg : Prg P T) {f : FuncId} {fn : Func} {c : Code} {args : List V} {σ σ' : List (Nat × O)} {ret : V} (hf : P.funcs[f]? = some fn) (hb : fn.body = some c) (hn : (fn.name == "runtime.NumGoroutine") = false)
    (N : Nat) (rs : List ResultVar) (hN : fn.ntmps = N) (hrs : fn.results.toList = rs) (hc : evChk args σ ret σ' N = true) (h : ∀ E ι0, keysK σ fun ks => fA ⟨enumV 0 args, someO σ, ks⟩ fun st => W P ⟨G, N, E, ι0, ks⟩ c st (fun ex A' => EndW ⟨G, N, E, ι0, ks⟩ T rs ret σ' ex A')) : Ev P G f args σ ret σ' := by
  subst hN; subst hrs
  simp only [evChk, Bool.and_eq_true] at hc
  obtain ⟨⟨⟨⟨c1, c2⟩, c3⟩, c4⟩, c5⟩ := hc
  refine ev_of_body hf hb hn rfl rfl rfl rfl rfl c1 c2 c3 c4 c5 fun E ι0 => ?_
  have h := h E ι0
  rw [keysK_iff, fA_iff] at h
  refine ac_post (ac_mono h.ac fun ex A' hE => ?_)
  obtain ⟨h1, hw, h2, h3⟩ := hE
  rename_i y
  refine ⟨y, hw, ?_⟩
  unfold retW at h2
  split at h2
  · rename_i vs hvs
    injection h2 with h2
    refine ⟨h1, vs, retL_ok pg.tok hvs, by rw [← h2]; exact plV_le _, fun l o' ho' => ?_⟩
    obtain ⟨q1, q2, q3⟩ := selO_act h3
    obtain ⟨a, h4, h5⟩ := q3 l o' ho'
    exact ⟨a, q2 l a (look_mem h4), h5⟩
  · cases h2
end Go.AM
set_option linter.unusedVariables false
set_option linter.unusedSimpArgs false
namespace Go.AM
open Go Go.RowKit
abbrev emptyS : ByteArray := ⟨#[]⟩
theorem mp_get {α : Type} {f : α → List D} {l : List α} {i : Nat} {a : α} (h : l[i]? = some a) : (l.map f)[i]? = some (f a) := by rw [List.getElem?_map, h]; rfl
theorem mp_cut {α β : Type} (f : α → β) (l : List α) (m k : Nat) : ((l.map f).take m).drop k = ((l.take m).drop k).map f := by rw [← List.map_take, ← List.map_drop]
theorem mp_sz {α : Type} {f : α → List D} {n : Nat} (h : ∀ a, (f a).length = n) {l : List α} : ∀ e ∈ l.map f, e.length = n := fun e he => by
  obtain ⟨a, _, rfl⟩ := List.mem_map.1 he
  exact h a
theorem mp_set {α β : Type} (f : α → β) (l : List α) (i : Nat) (a : α) : (l.map f).set i (f a) = (l.set i a).map f := List.map_set.symm
theorem dTys_cut (l : List Typ) (m k : Nat) : ((dTys l).take m).drop k = dTys ((l.take m).drop k) := by rw [dTys_map, dTys_map]; exact mp_cut ..
theorem dTms_cut (l : List Trm) (m k : Nat) : ((dTms l).take m).drop k = dTms ((l.take m).drop k) := by rw [dTms_map, dTms_map]; exact mp_cut ..
theorem dTys_set (l : List Typ) (i : Nat) (a : Typ) : (dTys l).set i (dTy a) = dTys (l.set i a) := by rw [dTys_map, dTys_map]; exact mp_set ..
theorem dTms_set (l : List Trm) (i : Nat) (a : Trm) : (dTms l).set i (dTm a) = dTms (l.set i a) := by rw [dTms_map, dTms_map]; exact mp_set ..
def cInt (i : Int) : List D := [.int .i64 i]
theorem dInts_map (l : List Int) : dInts l = l.map cInt := rfl
theorem dInts_app (l r : List Int) : dInts l ++ dInts r = dInts (l ++ r) := List.map_append.symm
theorem dInts_cut (l : List Int) (m k : Nat) : ((dInts l).take m).drop k = dInts ((l.take m).drop k) := mp_cut ..
theorem dInts_set (l : List Int) (i : Nat) (a : Int) : (dInts l).set i (cInt a) = dInts (l.set i a) := mp_set ..
def cBool (b : Bool) : List D := [.bool b]
def dBools (l : List Bool) : List (List D) := l.map cBool
theorem dBools_get {l : List Bool} {i : Nat} {a : Bool} (h : l[i]? = some a) : (dBools l)[i]? = some (cBool a) := mp_get h
theorem dBools_len (l : List Bool) : (dBools l).length = l.length := List.length_map ..
theorem dBools_sz (l : List Bool) : ∀ e ∈ dBools l, e.length = 1 := mp_sz (f := cBool) (n := 1) fun _ => rfl
theorem dBools_app (l r : List Bool) : dBools l ++ dBools r = dBools (l ++ r) := List.map_append.symm
theorem dBools_map (l : List Bool) : dBools l = l.map cBool := rfl
theorem dBools_cut (l : List Bool) (m k : Nat) : ((dBools l).take m).drop k = dBools ((l.take m).drop k) := mp_cut ..
def cStr (s : ByteArray) : List D := [.str s]
def dStrs (l : List ByteArray) : List (List D) := l.map cStr
theorem dStrs_get {l : List ByteArray} {i : Nat} {a : ByteArray} (h : l[i]? = some a) : (dStrs l)[i]? = some (cStr a) := mp_get h
theorem dStrs_len (l : List ByteArray) : (dStrs l).length = l.length := List.length_map ..
theorem dStrs_sz (l : List ByteArray) : ∀ e ∈ dStrs l, e.length = 1 := mp_sz (f := cStr) (n := 1) fun _ => rfl
theorem dStrs_app (l r : List ByteArray) : dStrs l ++ dStrs r = dStrs (l ++ r) := List.map_append.symm
theorem dStrs_map (l : List ByteArray) : dStrs l = l.map cStr := rfl
theorem dStrs_cut (l : List ByteArray) (m k : Nat) : ((dStrs l).take m).drop k = dStrs ((l.take m).drop k) := mp_cut ..
/-- Lists of lists. -/
def cL {α : Type} (f : List α → List (List D)) (x : List α) : List D := [.slice (f x)]
def dLs {α : Type} (f : List α → List (List D)) (l : List (List α)) : List (List D) := l.map (cL f)
section
variable {α : Type} {f : List α → List (List D)}
theorem dLs_get {l : List (List α)} {i : Nat} {a : List α} (h : l[i]? = some a) : (dLs f l)[i]? = some (cL f a) := mp_get h
theorem dLs_len (l : List (List α)) : (dLs f l).length = l.length := List.length_map ..
theorem dLs_sz (l : List (List α)) : ∀ e ∈ dLs f l, e.length = 1 := mp_sz (f := cL f) (n := 1) fun _ => rfl
theorem dLs_app (l r : List (List α)) : dLs f l ++ dLs f r = dLs f (l ++ r) := List.map_append.symm
theorem dLs_map (l : List (List α)) : dLs f l = l.map (cL f) := rfl
theorem dLs_cut (l : List (List α)) (m k : Nat) : ((dLs f l).take m).drop k = dLs f ((l.take m).drop k) := mp_cut ..
end
/-- Numbers of other kinds. -/
def cIk (k : IntKind) (i : Int) : List D := [.int k i]
def dIks (k : IntKind) (l : List Int) : List (List D) := l.map (cIk k)
section
variable {k : IntKind}
theorem dIks_get {l : List Int} {i : Nat} {a : Int} (h : l[i]? = some a) : (dIks k l)[i]? = some (cIk k a) := mp_get h
theorem dIks_len (l : List Int) : (dIks k l).length = l.length := List.length_map ..
theorem dIks_sz (l : List Int) : ∀ e ∈ dIks k l, e.length = 1 := mp_sz (f := cIk k) (n := 1) fun _ => rfl
theorem dIks_app (l r : List Int) : dIks k l ++ dIks k r = dIks k (l ++ r) := List.map_append.symm
theorem dIks_map (l : List Int) : dIks k l = l.map (cIk k) := rfl
theorem dIks_cut (l : List Int) (m j : Nat) : ((dIks k l).take m).drop j = dIks k ((l.take m).drop j) := mp_cut ..
end
theorem flat_at {α : Type} {c : α → List D} {n : Nat} (hc : ∀ a, (c a).length = n) : ∀ {l : List α} {i : Int} {a : α}, 0 ≤ i → l[i.toNat]? = some a → i < l.length ∧ ((l.flatMap c).drop (i.toNat * n)).take n = c a := by
  have key : ∀ (l : List α) (j : Nat) (a : α), l[j]? = some a → ((l.flatMap c).drop (j * n)).take n = c a := by
    intro l
    induction l with
    | nil => intro j a h; simp at h
    | cons x l ih =>
      intro j a h
      cases j with
      | zero =>
        simp only [List.getElem?_cons_zero, Option.some.injEq] at h
        subst h
        rw [Nat.zero_mul, List.drop_zero, List.flatMap_cons, ← hc x, List.take_left]
      | succ j =>
        simp only [List.getElem?_cons_succ] at h
        rw [List.flatMap_cons, Nat.succ_mul, Nat.add_comm, ← List.drop_drop, ← hc x, List.drop_left, hc x]
        exact ih j a h
  intro l i a h0 h
  have := (List.getElem?_eq_some_iff.1 h).1
  exact ⟨by omega, key l i.toNat a h⟩
def arInts : List Int := [0, 0, 1, 2, 0, 1, 3, 0, 2, 3, 2, 1, 1, 0]
/-- A package-level array of numbers. -/
theorem arI_get {l : List Int} {i : Int} {a : Int} (h0 : 0 ≤ i) (h : l[i.toNat]? = some a) : i < l.length ∧ (((l.map fun j => D.int .i64 j).drop (i.toNat * 1)).take 1) = [.int .i64 a] := by
  obtain ⟨hlt, rfl⟩ := List.getElem?_eq_some_iff.1 h
  refine ⟨by omega, ?_⟩
  rw [Nat.mul_one, ← List.map_drop, ← List.map_take, List.drop_eq_getElem_cons hlt]
  rfl

/-! ### Rows of the call's own, from slices without room -/
section
variable {P : Program} {C : Ctx} {ρ : List (Nat × V)} {σ : List (Nat × Option O)} {ls : List Nat} {Q : Exit → A → Prop} {c : Code}
theorem wrN (L t sz e : Nat) (hL : memB L ls = false) (ht : lk ρ t = some (.d .nils)) (h : W P C c ⟨(t, .own [] L) :: ρ, (L, some (.row 0 sz e)) :: σ, L :: ls⟩ Q) : W P C c ⟨ρ, σ, ls⟩ Q := by
  exact ⟨ac_weak (weak_rowt (es := []) (sz := sz) (e := e) hL ((lk_eq _ _).symm.trans ht) .nilfull) h.ac⟩
theorem wrF {es : List (List D)} (L t sz e : Nat) (hL : memB L ls = false) (ht : lk ρ t = some (.full es)) (h : W P C c ⟨(t, .own es L) :: ρ, (L, some (.row es.length sz e)) :: σ, L :: ls⟩ Q) : W P C c ⟨ρ, σ, ls⟩ Q := by
  exact ⟨ac_weak (weak_rowt (sz := sz) (e := e) hL ((lk_eq _ _).symm.trans ht) .rfl) h.ac⟩
theorem wrcN {vs : List V} {t : TypeId} (L l j sz e : Nat) (hL : memB L ls = false) (ho : lo σ l = some (.cells vs t)) (hj : nth vs j = some (.d .nils)) (h : fO (.cells (vs.set j (.own [] L)) t) fun o => W P C c ⟨ρ, (l, some o) :: (L, some (.row 0 sz e)) :: σ, L :: ls⟩ Q) : W P C c ⟨ρ, σ, ls⟩ Q := by
  exact ⟨ac_weak (weak_row (es := []) (sz := sz) (e := e) hL ((lo_eq _ _).symm.trans ho) (by rw [← nth_eq]; exact hj) .nilfull rfl) (fO_iff.1 h).ac⟩
theorem wrcF {vs : List V} {t : TypeId} {es : List (List D)} (L l j sz e : Nat) (hL : memB L ls = false) (ho : lo σ l = some (.cells vs t)) (hj : nth vs j = some (.full es)) (h : fO (.cells (vs.set j (.own es L)) t) fun o => W P C c ⟨ρ, (l, some o) :: (L, some (.row es.length sz e)) :: σ, L :: ls⟩ Q) : W P C c ⟨ρ, σ, ls⟩ Q := by
  exact ⟨ac_weak (weak_row (sz := sz) (e := e) hL ((lo_eq _ _).symm.trans ho) (by rw [← nth_eq]; exact hj) .rfl rfl) (fO_iff.1 h).ac⟩
end
end Go.AM
set_option linter.unusedVariables false
set_option linter.unusedSimpArgs false
namespace Go.AM
open Go
section
variable {α β X R : Type}
theorem bnd_eq {x : Option α} {a : α} {k : α → Option R} (h : x = some a) : bnd x k = k a := by subst h; rfl
theorem bnd_id {x : Option α} : (bnd x fun r => some r) = x := by cases x <;> rfl
theorem loopL_nil {fin : X → Option R} {step} {i : Nat} {x : X} : loopL (α := α) fin step i [] x = fin x := rfl
theorem loopL_cons {fin : X → Option R} {step} {i : Nat} {a : α} {l : List α} {x : X} : loopL fin step i (a :: l) x = step (loopL fin step (i + 1) l) i a x := rfl
/-- A loop's value, by what it is at each place. -/
theorem loopL_eq {fin : X → Option R} {step : (X → Option R) → Nat → α → X → Option R} (F : Nat → List α → X → Option R) (h0 : ∀ i x, fin x = F i [] x) : ∀ {l : List α} {i : Nat} {x : X},
    (∀ k a as x i, a ∈ l → (∀ x', k x' = F (i + 1) as x') → step k i a x = F i (a :: as) x) → loopL fin step i l x = F i l x
  | [], i, x, _ => h0 i x
  | a :: as, i, x, hs => by
    rw [loopL_cons]
    exact hs _ a as x i List.mem_cons_self fun x' => loopL_eq F h0 fun k b bs x i hb => hs k b bs x i (List.mem_cons_of_mem _ hb)
/-- A loop that appends what is reckoned of each part. -/
theorem loopL_push {fin : List β → Option R} {self : α → Option β} {f : α → β} : ∀ {l : List α} {i : Nat} {x : List β}, (∀ a ∈ l, self a = some (f a)) → x.length + l.length ≤ 2000000000 →
    loopL fin (fun k _ a x => bnd (self a) fun r => gd (x.length + 1) (k (x ++ [r]))) i l x = fin (x ++ l.map f)
  | [], i, x, _, _ => by rw [loopL_nil, List.map_nil, List.append_nil]
  | a :: l, i, x, h, hl => by
    simp only [List.length_cons] at hl
    rw [loopL_cons, bnd_eq (h a List.mem_cons_self), gd_ok (by omega), loopL_push (fun b hb => h b (List.mem_cons_of_mem _ hb)) (by simp; omega)]
    simp
/-- A loop that hands a value on. -/
theorem loopL_fold {fin : X → Option R} {self : α → X → Option X} {g : X → α → X} : ∀ {l : List α} {i : Nat} {x : X}, (∀ a ∈ l, ∀ x, self a x = some (g x a)) →
    loopL fin (fun k _ a x => bnd (self a x) fun r => k r) i l x = fin (l.foldl g x)
  | [], i, x, _ => rfl
  | a :: l, i, x, h => by
    rw [loopL_cons, bnd_eq (h a List.mem_cons_self _), loopL_fold fun b hb => h b (List.mem_cons_of_mem _ hb)]
    rfl
/-- As before, where something holds all along. -/
theorem loopL_foldP {fin : X → Option R} {self : α → X → Option X} {g : X → α → X} (p : List α → X → Prop) : ∀ {l : List α} {i : Nat} {x : X}, (∀ a as x, p (a :: as) x → self a x = some (g x a) ∧ p as (g x a)) → p l x →
    loopL fin (fun k _ a x => bnd (self a x) fun r => k r) i l x = fin (l.foldl g x)
  | [], i, x, _, _ => rfl
  | a :: l, i, x, h, hp => by
    rw [loopL_cons, bnd_eq (h a l x hp).1, loopL_foldP p h (h a l x hp).2]
    rfl
/-- A loop that adds up what is reckoned of each part, and stops at a part that is not right. -/
theorem loopL_sum {fin : Int → Option R} {bad : Option R} {self : α → Option (Int × Bool)} {sz : α → Nat} {ok : α → Bool} : ∀ {l : List α} {i : Nat} {x : Nat}, (∀ a ∈ l, self a = some (if ok a then ((sz a : Nat) : Int) else 0, ok a)) → x + (l.map sz).sum ≤ 1000000 →
    loopL fin (fun k _ a x => bnd (self a) fun r => cond (!r.2) bad (k (w64 (x + r.1)))) i l (x : Int) = if l.all ok then fin ((x + (l.map sz).sum : Nat) : Int) else bad
  | [], i, x, _, _ => rfl
  | a :: l, i, x, h, hx => by
    simp only [List.map_cons, List.sum_cons] at hx
    rw [loopL_cons, bnd_eq (h a List.mem_cons_self)]
    cases ho : ok a with
    | false => simp [ho]
    | true =>
      simp only [if_true, Bool.not_true, cond_false]
      rw [w64_id (by omega) (by omega), ← Int.natCast_add, loopL_sum (fun b hb => h b (List.mem_cons_of_mem _ hb)) (by omega)]
      simp only [List.all_cons, ho, Bool.true_and, List.map_cons, List.sum_cons, Nat.add_assoc]
theorem fixO_succ {body : (α → Option R) → α → Option R} {m : Nat} {a : α} : fixO body (m + 1) a = body (fixO body m) a := rfl
end
end Go.AM

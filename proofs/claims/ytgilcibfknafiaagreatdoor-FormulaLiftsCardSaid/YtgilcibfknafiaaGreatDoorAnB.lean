/-
  An operation's effect, reckoned as a function of the state: what it asks, and what it leaves.
-/
import Derived.Test.YtgilcibfknafiaaGreatDoorAnA
set_option linter.unusedVariables false
set_option linter.unusedSimpArgs false
namespace Go.AM
open Go Go.RowKit

/-! ### What is asked -/
structure Ask (p K : Prop) : Prop where
  a : p
  k : K
inductive IdxW (es : List (List D)) (i : Int) (n : Nat) (K : List D → Prop) : Prop
  | mk {el : List D} (h0 : 0 ≤ i) (h1 : es[i.toNat]? = some el) (h2 : el.length = n) (k : K el)
inductive ArrW (cs : List D) (i : Int) (len n : Nat) (K : List D → Prop) : Prop
  | mk {ds : List D} (h0 : 0 ≤ i) (h1 : i < len) (hd : (cs.drop (i.toNat * n)).take n = ds) (hl : ds.length = n) (k : K ds)
inductive LenW (es : List (List D)) (K : Nat → Prop) : Prop
  | mk {n : Nat} (h : es.length = n) (k : K n)
inductive EqW {α : Type} (x : α) (K : α → Prop) : Prop
  | mk {y : α} (h : x = y) (k : K y)
inductive AppW (es ys : List (List D)) (n : Nat) (K : List (List D) → Prop) : Prop
  | mk {zs : List (List D)} (hz : es ++ ys = zs) (hes : ∀ e ∈ es, e.length = n) (hys : ∀ e ∈ ys, e.length = n) (hb : es.length + ys.length ≤ 2000000000) (k : K zs)
inductive CutW (es : List (List D)) (lo hi : Int) (n : Nat) (K : List (List D) → Prop) : Prop
  | mk {fs : List (List D)} (hel : ∀ e ∈ es, e.length = n) (h0 : 0 ≤ lo) (h1 : lo ≤ hi) (h2 : hi ≤ es.length) (hf : (es.take hi.toNat).drop lo.toNat = fs) (k : K fs)
inductive BsW (es : List (List D)) (n : Nat) (K : List (List D) → Prop) : Prop
  | mk {fs : List (List D)} (h : es = fs) (hn : ∀ e ∈ fs, e.length = n) (k : K fs)

/-! ### Labels by other names -/
def rn : List (Nat × Nat) → Nat → Nat
  | [], l => l + 100000
  | (a, b) :: r, l => match Nat.beq a l with
    | true => b
    | false => rn r l
mutual
def rnV (π : List (Nat × Nat)) : V → V
  | .ptr l o => .ptr (rn π l) o
  | .own es l => .own es (rn π l)
  | .map l => .map (rn π l)
  | .clo f cs => .clo f (rnVs π cs)
  | .agg cs => .agg (rnVs π cs)
  | .tup cs => .tup (rnVs π cs)
  | .any => .any
  | .d x => .d x
  | .full es => .full es
  | .cptr cs => .cptr cs
def rnVs (π : List (Nat × Nat)) : List V → List V
  | [] => []
  | v :: r => rnV π v :: rnVs π r
end
def rnO (π : List (Nat × Nat)) : O → O
  | .cells vs t => .cells (rnVs π vs) t
  | .row n sz t => .row n sz t
  | .map es => .map es
def rnS (π : List (Nat × Nat)) : List (Nat × O) → List (Nat × O)
  | [] => []
  | (l, o) :: r => (rn π l, rnO π o) :: rnS π r
def piOk : List (Nat × Nat) → Bool
  | [] => true
  | (_, b) :: r => Nat.blt b 100000 && (r.all fun p => !Nat.beq p.2 b) && piOk r
theorem rn_lt {π : List (Nat × Nat)} (h : piOk π = true) {l : Nat} : (∃ p ∈ π, p.1 = l) → rn π l < 100000 ∧ ∃ p ∈ π, p.1 = l ∧ p.2 = rn π l := by
  induction π with
  | nil => rintro ⟨p, hp, _⟩; cases hp
  | cons p r ih =>
    obtain ⟨a, b⟩ := p
    simp only [piOk, Bool.and_eq_true] at h
    rintro ⟨q, hq, e⟩
    unfold rn
    cases hb : Nat.beq a l with
    | true => exact ⟨by simpa [Nat.blt_eq] using h.1.1, (a, b), List.mem_cons_self, Nat.eq_of_beq_eq_true hb, rfl⟩
    | false =>
      rcases List.mem_cons.1 hq with rfl | hq
      · rw [show a = l from e, Nat.beq_refl] at hb; cases hb
      · obtain ⟨h1, p, h2, h3⟩ := ih h.2 ⟨q, hq, e⟩
        exact ⟨h1, p, List.mem_cons_of_mem _ h2, h3⟩
theorem rn_out {π : List (Nat × Nat)} {l : Nat} : (¬ ∃ p ∈ π, p.1 = l) → rn π l = l + 100000 := by
  induction π with
  | nil => intro _; rfl
  | cons p r ih =>
    obtain ⟨a, b⟩ := p
    intro h
    unfold rn
    cases hb : Nat.beq a l with
    | true => exact absurd ⟨(a, b), List.mem_cons_self, Nat.eq_of_beq_eq_true hb⟩ h
    | false => exact ih fun ⟨q, hq, e⟩ => h ⟨q, List.mem_cons_of_mem _ hq, e⟩
theorem rn_inj {π : List (Nat × Nat)} (h : piOk π = true) {l l' : Nat} (e : rn π l = rn π l') : l = l' := by
  by_cases h1 : ∃ p ∈ π, p.1 = l
  · by_cases h2 : ∃ p ∈ π, p.1 = l'
    · -- the first of its key, on both sides
      clear h1 h2
      induction π with
      | nil => simpa [rn] using e
      | cons p r ih =>
        obtain ⟨a, b⟩ := p
        have h' := h
        simp only [piOk, Bool.and_eq_true, List.all_eq_true, Bool.not_eq_true'] at h
        unfold rn at e
        have key : ∀ l, rn r l = b → False := fun l hl => by
          by_cases hin : ∃ p ∈ r, p.1 = l
          · obtain ⟨_, p, hp, _, e2⟩ := rn_lt h.2 hin
            have := h.1.2 p hp
            rw [e2, hl, Nat.beq_refl] at this; cases this
          · rw [rn_out hin] at hl
            have : b < 100000 := by simpa [Nat.blt_eq] using h.1.1
            omega
        cases hb : Nat.beq a l with
        | true =>
          cases hb' : Nat.beq a l' with
          | true => rw [← Nat.eq_of_beq_eq_true hb, ← Nat.eq_of_beq_eq_true hb']
          | false => rw [hb, hb'] at e; exact (key l' e.symm).elim
        | false =>
          cases hb' : Nat.beq a l' with
          | true => rw [hb, hb'] at e; exact (key l e).elim
          | false => rw [hb, hb'] at e; exact ih h.2 e
    · rw [rn_out h2] at e
      have := (rn_lt h h1).1
      omega
  · by_cases h2 : ∃ p ∈ π, p.1 = l'
    · rw [rn_out h1] at e
      have := (rn_lt h h2).1
      omega
    · rw [rn_out h1, rn_out h2] at e; omega
mutual
theorem RepV.rn {M : Mem} {ι ι' : Env} {π : List (Nat × Nat)} (h : ∀ l, ι' (AM.rn π l) = ι l) : ∀ (x : V) (v : Value), RepV M ι x v ↔ RepV M ι' (rnV π x) v
  | .any, _ => by simp only [rnV, RepV]
  | .d x, v => by simp only [rnV, RepV]
  | .full es, v => by simp only [rnV, RepV]
  | .cptr cs, v => by simp only [rnV, RepV]
  | .ptr l off, v => by simp only [rnV, RepV, h]
  | .map l, v => by simp only [rnV, RepV, h]
  | .own es l, v => by simp only [rnV, RepV, h]
  | .clo f cs, v => by simp only [rnV, RepV]; exact exists_congr fun vs => and_congr_right fun _ => RepVs.rn h cs vs
  | .agg cs, v => by simp only [rnV, RepV]; exact exists_congr fun vs => and_congr_right fun _ => and_congr_left fun _ => RepVs.rn h cs vs
  | .tup cs, v => by simp only [rnV, RepV]; exact exists_congr fun vs => and_congr_right fun _ => RepVs.rn h cs vs
theorem RepVs.rn {M : Mem} {ι ι' : Env} {π : List (Nat × Nat)} (h : ∀ l, ι' (AM.rn π l) = ι l) : ∀ (xs : List V) (l : List Value), RepVs M ι xs l ↔ RepVs M ι' (rnVs π xs) l
  | [], _ => by simp only [rnVs, RepVs]
  | c :: cs, l => by
    simp only [rnVs, RepVs]
    exact exists_congr fun v => exists_congr fun r => and_congr_right fun _ => and_congr (RepV.rn h c v) (RepVs.rn h cs r)
end
theorem ORep.rn {M : Mem} {ι ι' : Env} {π : List (Nat × Nat)} (h : ∀ l, ι' (AM.rn π l) = ι l) {w : World} {bd : Bind} (o : O) : ORep M ι w bd o ↔ ORep M ι' w bd (rnO π o) := by
  cases o with
  | cells vs t =>
    simp only [rnO, ORep]
    exact and_congr_right fun _ => exists_congr fun b => exists_congr fun cs => and_congr_right fun _ => and_congr_right fun _ => and_congr_left fun _ => RepVs.rn h vs cs
  | row n sz t => exact Iff.rfl
  | map es => exact Iff.rfl
theorem rnO_holds (π : List (Nat × Nat)) (o : O) (n : Nat) : (rnO π o).holds n = o.holds n := by cases o <;> rfl
theorem look_rnS {π : List (Nat × Nat)} (hp : piOk π = true) (σ : List (Nat × O)) (l : Nat) : look (rnS π σ) (rn π l) = (look σ l).map (rnO π) := by
  induction σ with
  | nil => rfl
  | cons p r ih =>
    obtain ⟨k, o⟩ := p
    simp only [rnS, look_cons]
    by_cases e : k = l
    · subst e; simp
    · rw [if_neg (fun x => e (rn_inj hp x)), if_neg e]; exact ih
theorem look_rnS_some {π : List (Nat × Nat)} {σ : List (Nat × O)} {k : Nat} {o : O} (h : look (rnS π σ) k = some o) : ∃ l, k = rn π l := by
  induction σ with
  | nil => cases h
  | cons p r ih =>
    obtain ⟨l, o'⟩ := p
    simp only [rnS, look_cons] at h
    split at h
    · rename_i e; exact ⟨l, e.symm⟩
    · exact ih h
theorem Inv.rn {E : Entry} {M : Mem} {ι ι' : Env} {π : List (Nat × Nat)} (hp : piOk π = true) (h : ∀ l, ι' (AM.rn π l) = ι l) {σ : List (Nat × O)} {w : World} : Inv E M ι (look σ) w ↔ Inv E M ι' (look (rnS π σ)) w := by
  have fwd : ∀ {l o}, look σ l = some o → look (rnS π σ) (AM.rn π l) = some (rnO π o) := fun {l o} ho => by rw [look_rnS hp, ho]; rfl
  have bwd : ∀ {k o}, look (rnS π σ) k = some o → ∃ l o', k = AM.rn π l ∧ o = rnO π o' ∧ look σ l = some o' := fun {k o} ho => by
    obtain ⟨l, rfl⟩ := look_rnS_some ho
    rw [look_rnS hp, Option.map_eq_some_iff] at ho
    obtain ⟨o', h1, rfl⟩ := ho
    exact ⟨l, o', rfl, rfl, h1⟩
  constructor
  · intro hi
    refine ⟨hi.mem, ?_, ?_, ?_, ?_, hi.le, hi.new, hi.size, hi.os, hi.tape, hi.output, hi.frame⟩
    · intro k o ho
      obtain ⟨l, o', rfl, rfl, h1⟩ := bwd ho
      obtain ⟨bd, h2, h3⟩ := hi.obj l o' h1
      exact ⟨bd, by rw [h]; exact h2, (ORep.rn h o').1 h3⟩
    · intro k k' o o' bd bd' b ho ho' hb hb' hk hk'
      obtain ⟨l, _, rfl, rfl, h1⟩ := bwd ho
      obtain ⟨l', _, rfl, rfl, h1'⟩ := bwd ho'
      rw [h] at hb hb'
      rw [hi.inj l l' _ _ bd bd' b h1 h1' hb hb' hk hk']
    · intro k o bd b ho hb hk a v hv hab
      obtain ⟨l, _, rfl, rfl, h1⟩ := bwd ho
      rw [h] at hb
      rw [rnO_holds]
      exact hi.sep l _ bd b h1 hb hk a v hv hab
    · intro k o bd b ho hb hk
      obtain ⟨l, _, rfl, rfl, h1⟩ := bwd ho
      rw [h] at hb
      exact hi.own l _ bd b h1 hb hk
  · intro hi
    refine ⟨hi.mem, ?_, ?_, ?_, ?_, hi.le, hi.new, hi.size, hi.os, hi.tape, hi.output, hi.frame⟩
    · intro l o ho
      obtain ⟨bd, h2, h3⟩ := hi.obj _ _ (fwd ho)
      rw [h] at h2
      exact ⟨bd, h2, (ORep.rn h o).2 h3⟩
    · intro l l' o o' bd bd' b ho ho' hb hb' hk hk'
      exact rn_inj hp (hi.inj _ _ _ _ bd bd' b (fwd ho) (fwd ho') (by rw [h]; exact hb) (by rw [h]; exact hb') hk hk')
    · intro l o bd b ho hb hk a v hv hab
      rw [← rnO_holds π]
      exact hi.sep _ _ bd b (fwd ho) (by rw [h]; exact hb) hk a v hv hab
    · intro l o bd b ho hb hk
      exact hi.own _ _ bd b (fwd ho) (by rw [h]; exact hb) hk
theorem Entry.rn {M : Mem} {ι ι' : Env} {π : List (Nat × Nat)} (hp : piOk π = true) (h : ∀ l, ι' (AM.rn π l) = ι l) (σ : List (Nat × O)) (w : World) : Entry.of M ι' (look (rnS π σ)) w = Entry.of M ι (look σ) w := by
  unfold Entry.of
  congr 1
  funext b
  refine propext ⟨?_, ?_⟩
  · rintro ⟨k, o, bd, h1, h2, h3⟩
    obtain ⟨l, rfl⟩ := look_rnS_some h1
    rw [look_rnS hp, Option.map_eq_some_iff] at h1
    obtain ⟨o', h4, rfl⟩ := h1
    exact ⟨l, o', bd, h4, by rw [← h]; exact h2, h3⟩
  · rintro ⟨l, o, bd, h1, h2, h3⟩
    exact ⟨AM.rn π l, rnO π o, bd, by rw [look_rnS hp, h1]; rfl, by rw [h]; exact h2, h3⟩
/-- A contract, its labels renamed. -/
theorem Ev.rn {P : Program} {G : Gl} {f : FuncId} {args : List V} {σ : List (Nat × O)} {ret : V} {σ' : List (Nat × O)} {π : List (Nat × Nat)} (hp : piOk π = true) (h : Ev P G f args σ ret σ') : Ev P G f (rnVs π args) (rnS π σ) (rnV π ret) (rnS π σ') := by
  refine ⟨h.1, fun M ι w cargs hi hG hargs hfr => ?_⟩
  let ι0 : Env := fun l => ι (AM.rn π l)
  have h0 : ∀ l, ι (AM.rn π l) = ι0 l := fun _ => rfl
  have he := Entry.rn (M := M) hp h0 σ w
  rw [he] at hi
  have hi0 := (Inv.rn hp h0).2 hi
  have hnone : ∀ {τ : List (Nat × O)} {l : Nat}, look (rnS π τ) (AM.rn π l) = none ↔ look τ l = none := fun {τ l} => by rw [look_rnS hp]; simp
  refine (h.2 M ι0 w cargs hi0 hG ((RepVs.rn h0 _ _).2 hargs) (fun l h1 h2 => hfr (AM.rn π l) (fun e => h1 (hnone.1 e)) (hnone.2 h2))).mono ?_
  rintro e w' ⟨M', ι1, v, rfl, hg, hl, hinv, hv⟩
  classical
  let ι1' : Env := fun k => if hk : ∃ l, AM.rn π l = k ∧ ¬ (look σ l = none ∧ look σ' l = none) then ι1 hk.choose else ι k
  have h1 : ∀ l, ι1' (AM.rn π l) = ι1 l := fun l => by
    show (if hk : ∃ l', AM.rn π l' = AM.rn π l ∧ ¬ (look σ l' = none ∧ look σ' l' = none) then ι1 hk.choose else ι (AM.rn π l)) = ι1 l
    by_cases hk : ∃ l', AM.rn π l' = AM.rn π l ∧ ¬ (look σ l' = none ∧ look σ' l' = none)
    · rw [dif_pos hk, rn_inj hp hk.choose_spec.1]
    · rw [dif_neg hk]
      have : look σ l = none ∧ look σ' l = none := Classical.byContradiction fun hn => hk ⟨l, rfl, hn⟩
      exact (hl l this.1 this.2).symm
  have hout : ∀ k, (¬ ∃ l, AM.rn π l = k ∧ ¬ (look σ l = none ∧ look σ' l = none)) → ι1' k = ι k := fun k hk => by
    show (if hk : ∃ l', AM.rn π l' = k ∧ ¬ (look σ l' = none ∧ look σ' l' = none) then ι1 hk.choose else ι k) = ι k
    rw [dif_neg hk]
  refine ⟨M', ι1', v, rfl, ⟨hg.mem, fun k bd hk => ?_⟩, fun k e1 e2 => ?_, ?_, (RepV.rn h1 _ _).1 hv⟩
  · by_cases hc : ∃ l, AM.rn π l = k ∧ ¬ (look σ l = none ∧ look σ' l = none)
    · obtain ⟨l, rfl, _⟩ := hc
      rw [h1]
      exact hg.env l bd hk
    · rw [hout k hc]; exact ⟨bd, hk, .inl rfl⟩
  · refine hout k ?_
    rintro ⟨l, rfl, hn⟩
    exact hn ⟨hnone.1 e1, hnone.1 e2⟩
  · rw [he]; exact (Inv.rn hp h1).1 hinv

def rnK (π : List (Nat × Nat)) (l : Nat) (k : Nat → Prop) : Prop := match π with
  | [] => k (l + 100000)
  | (a, b) :: r => match Nat.beq a l with
    | true => k b
    | false => rnK r l k
theorem rnK_iff : ∀ {π : List (Nat × Nat)} {l : Nat} {k : Nat → Prop}, rnK π l k ↔ k (rn π l)
  | [], l, k => Iff.rfl
  | (a, b) :: r, l, k => by
    unfold rnK rn
    cases Nat.beq a l with
    | true => exact Iff.rfl
    | false => exact rnK_iff

/-! ### Calls -/
/-- The objects that are handed over, as the callee asks for them. -/
def selO (σ : List (Nat × Option O)) : List (Nat × O) → List (Nat × O)
  | [] => []
  | (l, o) :: r => match lo σ l with
    | some a => (l, coO o a) :: selO σ r
    | none => []
def actO (σ : List (Nat × Option O)) : List (Nat × O) → List (Nat × O)
  | [] => []
  | (l, o) :: r => match lo σ l with
    | some a => (l, a) :: actO σ r
    | none => []
def appO (τ : List (Nat × O)) (σ : List (Nat × Option O)) (k : List (Nat × Option O) → Prop) : Prop := match τ with
  | [] => k σ
  | (l, o) :: r => appO r σ fun σ' => k ((l, some o) :: σ')
theorem appO_iff : ∀ {τ : List (Nat × O)} {σ : List (Nat × Option O)} {k : List (Nat × Option O) → Prop}, appO τ σ k ↔ k (someO τ ++ σ)
  | [], σ, k => Iff.rfl
  | (l, o) :: r, σ, k => by unfold appO; rw [appO_iff]; rfl
def appN (xs ls : List Nat) (k : List Nat → Prop) : Prop := match xs with
  | [] => k ls
  | x :: r => appN r ls fun ls' => k (x :: ls')
theorem appN_iff : ∀ {xs ls : List Nat} {k : List Nat → Prop}, appN xs ls k ↔ k (xs ++ ls)
  | [], ls, k => Iff.rfl
  | x :: r, ls, k => by unfold appN; rw [appN_iff]; rfl
def keysK (τ : List (Nat × O)) (k : List Nat → Prop) : Prop := match τ with
  | [] => k []
  | (l, _) :: r => keysK r fun ls => k (l :: ls)
theorem keysK_iff : ∀ {τ : List (Nat × O)} {k : List Nat → Prop}, keysK τ k ↔ k (τ.map (·.1))
  | [], k => Iff.rfl
  | (l, o) :: r, k => by unfold keysK; rw [keysK_iff]; rfl
def putK (ρ : List (Nat × V)) (d : Option Nat) (v : V) (k : List (Nat × V) → Prop) : Prop := match d with
  | some d => k ((d, v) :: ρ)
  | none => k ρ
theorem putK_iff {ρ : List (Nat × V)} {d : Option Nat} {v : V} {k : List (Nat × V) → Prop} : putK ρ d v k ↔ k (putL ρ d v) := by cases d <;> exact Iff.rfl
/-- What is left behind a call. -/
def behind (ret : V) (τ τ' : List (Nat × O)) (ρ : List (Nat × V)) (σ : List (Nat × Option O)) (ls : List Nat) (d : Option Nat) (K : List Nat → List Nat → List (Nat × V) → List (Nat × Option O) → List Nat → Prop) : Prop :=
  fV ret fun ret => fSig τ' fun τ' => keysK τ fun rl => keysK τ' fun wl => appO τ' σ fun σ' => appN wl ls fun ls' => putK ρ d ret fun ρ' => K rl wl ρ' σ' ls'
theorem behind_iff {ret : V} {τ τ' : List (Nat × O)} {ρ : List (Nat × V)} {σ : List (Nat × Option O)} {ls : List Nat} {d : Option Nat} {K : List Nat → List Nat → List (Nat × V) → List (Nat × Option O) → List Nat → Prop} :
    behind ret τ τ' ρ σ ls d K ↔ K (τ.map (·.1)) (τ'.map (·.1)) (putL ρ d ret) (someO τ' ++ σ) (τ'.map (·.1) ++ ls) := by
  unfold behind; rw [fV_iff, fSig_iff, keysK_iff, keysK_iff, appO_iff, appN_iff, putK_iff]
mutual
def rnVK (π : List (Nat × Nat)) (v : V) (k : V → Prop) : Prop := match v with
  | .ptr l o => rnK π l fun l => k (.ptr l o)
  | .own es l => rnK π l fun l => k (.own es l)
  | .map l => rnK π l fun l => k (.map l)
  | .clo f cs => rnVsK π cs fun cs => k (.clo f cs)
  | .agg cs => rnVsK π cs fun cs => k (.agg cs)
  | .tup cs => rnVsK π cs fun cs => k (.tup cs)
  | .any => k .any
  | .d x => fD x fun x => k (.d x)
  | .full es => k (.full es)
  | .cptr cs => fDs cs fun cs => k (.cptr cs)
def rnVsK (π : List (Nat × Nat)) (vs : List V) (k : List V → Prop) : Prop := match vs with
  | [] => k []
  | v :: r => rnVK π v fun v => rnVsK π r fun r => k (v :: r)
end
mutual
theorem rnVK_iff {π : List (Nat × Nat)} : ∀ {v : V} {k : V → Prop}, rnVK π v k ↔ k (rnV π v)
  | .any, k => by unfold rnVK rnV; exact Iff.rfl
  | .d x, k => by unfold rnVK rnV; rw [fD_iff]
  | .full es, k => by unfold rnVK rnV; exact Iff.rfl
  | .ptr l o, k => by unfold rnVK rnV; rw [rnK_iff]
  | .cptr cs, k => by unfold rnVK rnV; rw [fDs_iff]
  | .own es l, k => by unfold rnVK rnV; rw [rnK_iff]
  | .clo f cs, k => by unfold rnVK rnV; rw [rnVsK_iff]
  | .map l, k => by unfold rnVK rnV; rw [rnK_iff]
  | .agg cs, k => by unfold rnVK rnV; rw [rnVsK_iff]
  | .tup cs, k => by unfold rnVK rnV; rw [rnVsK_iff]
theorem rnVsK_iff {π : List (Nat × Nat)} : ∀ {vs : List V} {k : List V → Prop}, rnVsK π vs k ↔ k (rnVs π vs)
  | [], k => by unfold rnVsK rnVs; exact Iff.rfl
  | v :: r, k => by unfold rnVsK rnVs; rw [rnVK_iff, rnVsK_iff]
end
def rnSK (π : List (Nat × Nat)) (σ : List (Nat × O)) (k : List (Nat × O) → Prop) : Prop := match σ with
  | [] => k []
  | (l, .cells vs t) :: r => rnK π l fun l => rnVsK π vs fun vs => rnSK π r fun r => k ((l, .cells vs t) :: r)
  | (l, .row n sz t) :: r => rnK π l fun l => rnSK π r fun r => k ((l, .row n sz t) :: r)
  | (l, .map es) :: r => rnK π l fun l => rnSK π r fun r => k ((l, .map es) :: r)
theorem rnSK_iff {π : List (Nat × Nat)} : ∀ {σ : List (Nat × O)} {k : List (Nat × O) → Prop}, rnSK π σ k ↔ k (rnS π σ)
  | [], k => Iff.rfl
  | (l, .cells vs t) :: r, k => by unfold rnSK; rw [rnK_iff, rnVsK_iff, rnSK_iff]; rfl
  | (l, .row n sz t) :: r, k => by unfold rnSK; rw [rnK_iff, rnSK_iff]; rfl
  | (l, .map es) :: r, k => by unfold rnSK; rw [rnK_iff, rnSK_iff]; rfl
inductive PIdxW (i : Int) (len : Nat) (K : Nat → Prop) : Prop
  | mk {m : Nat} (h : i = (m : Int)) (hm : m < len) (k : K m)
inductive CallW (P : Program) (G : Gl) (f : FuncId) (vals caps : List V) (ρ : List (Nat × V)) (σ : List (Nat × Option O)) (ls : List Nat) (d : Option Nat) (K : List Nat → List Nat → List (Nat × V) → List (Nat × Option O) → List Nat → Prop) : Prop
  | mk {all : List V} {ret : V} {τ τ' : List (Nat × O)} (hev : Ev P G f all τ ret τ') (ha : plVs vals ++ plVs caps = all) (hσ : selO σ τ = τ) (hk : subK τ τ' = true) (hfr : freshK τ τ' ls = true)
      (k : behind ret τ τ' ρ σ ls d K)
theorem callW {P : Program} {G : Gl} {f : FuncId} {vals caps : List V} {ρ : List (Nat × V)} {σ : List (Nat × Option O)} {ls : List Nat} {d : Option Nat} {K : List Nat → List Nat → List (Nat × V) → List (Nat × Option O) → List Nat → Prop} {all : List V} {ret : V} {τ τ' : List (Nat × O)} (π : List (Nat × Nat)) (hev : Ev P G f all τ ret τ') (hπ : piOk π = true)
    (ha : plVs vals ++ plVs caps = rnVs π all) (hσ : selO σ (rnS π τ) = rnS π τ) (hk : subK (rnS π τ) (rnS π τ') = true) (hfr : freshK (rnS π τ) (rnS π τ') ls = true)
    (k : rnVK π ret fun ret => rnSK π τ fun τ => rnSK π τ' fun τ' => behind ret τ τ' ρ σ ls d K) : CallW P G f vals caps ρ σ ls d K := by
  refine .mk (hev.rn hπ) ha hσ hk hfr ?_
  rw [rnVK_iff, rnSK_iff, rnSK_iff] at k
  exact k
theorem callW0 {P : Program} {G : Gl} {f : FuncId} {vals caps : List V} {ρ : List (Nat × V)} {σ : List (Nat × Option O)} {ls : List Nat} {d : Option Nat} {K : List Nat → List Nat → List (Nat × V) → List (Nat × Option O) → List Nat → Prop} {all : List V} {ret : V} (hev : Ev P G f all [] ret []) (ha : plVs vals ++ plVs caps = all)
    (k : fV ret fun ret => putK ρ d ret fun ρ => K [] [] ρ σ ls) : CallW P G f vals caps ρ σ ls d K := by
  refine .mk hev ha rfl rfl rfl ?_
  rw [fV_iff, putK_iff] at k
  rw [behind_iff]
  exact k
theorem selO_act {σ : List (Nat × Option O)} : ∀ {τ : List (Nat × O)}, selO σ τ = τ → (actO σ τ).map (·.1) = τ.map (·.1) ∧ (∀ l o, (l, o) ∈ actO σ τ → lookO σ l = some o) ∧ ∀ l o, look τ l = some o → ∃ a, look (actO σ τ) l = some a ∧ OLe a o
  | [], _ => ⟨rfl, (fun l o (h : (l, o) ∈ []) => by cases h), fun l o (h : none = some o) => by cases h⟩
  | (k, o) :: r, h => by
    unfold selO at h
    unfold actO
    split at h
    · rename_i a ha
      simp only [List.cons.injEq, Prod.mk.injEq, true_and] at h
      obtain ⟨h1, h2, h3⟩ := selO_act h.2
      refine ⟨by simp [h1], fun l o' hm => ?_, fun l o' hl => ?_⟩
      · rcases List.mem_cons.1 hm with e | hm
        · injection e with e1 e2; subst e1; subst e2; rw [← lo_eq]; exact ha
        · exact h2 l o' hm
      · simp only [look_cons] at hl ⊢
        split at hl
        · rename_i e
          injection hl with hl; subst hl
          rw [if_pos e]
          exact ⟨a, rfl, by have := coO_le o a; rwa [h.1] at this⟩
        · rename_i e; rw [if_neg e]; exact h3 l o' hl
    · cases h
theorem aop_callW {P : Program} {G : Gl} {o : Oper} {c : Call} {f : FuncId} {vals caps all : List V} {x : V} {τa τ τ' : List (Nat × O)} {ret : V} {fo : Operand} (ho : o.op = .call c) (hc : c.callee = .value fo) (hx : x = .clo f caps ∨ (x = .d (.fn f) ∧ caps = []))
    (hev : Ev P G f all τ ret τ') (ha : plVs vals ++ plVs caps = all) (hkeys : τa.map (·.1) = τ.map (·.1)) (hle : ∀ l o, look τ l = some o → ∃ a, look τa l = some a ∧ OLe a o) (hsub : subK τ τ' = true) : AOp P G o (x :: vals) τa (someO τ') ret := by
  intro E M ι H w a next Q hi hG hfp hvs hfr hk
  obtain ⟨hcall, h⟩ := hev
  have hops : o.op.operands.toList = fo :: c.args.toList := by rw [ho]; simp [Op.operands, Call.operands, hc]
  rw [hops] at hvs
  simp only [List.map_cons, RepVs] at hvs
  obtain ⟨fv, avs, e1, hfv, havs⟩ := hvs
  injection e1 with e1 e2
  subst e1; subst e2
  obtain ⟨cs, hcs, hcsr⟩ : ∃ cs : List Value, a.eval fo = .func (.func f) #[] cs.toArray ∧ RepVs M ι caps cs := by
    rcases hx with rfl | ⟨rfl, rfl⟩
    · simp only [RepV] at hfv
      obtain ⟨vs, e1, e2⟩ := hfv; exact ⟨vs, e1, e2⟩
    · simp only [RepV, RepD] at hfv
      exact ⟨[], by rw [hfv], by simp [RepVs]⟩
  have hσ : ∀ l o', look τa l = some o' → H l = some o' := fun l o' hl => hfp l o' (look_mem hl)
  have hrun : (execOp a.eval o).run P w = .ok (.enter f ((c.args.toList.map a.eval) ++ cs).toArray) w := by
    simp only [execOp, ho, resolve_value hc, hcs, Deferred.ofValue, Sem.run_bind, Sem.run_pure, Result.andThen_ok, invoke]
    rw [run_callFunc hcall]
    congr 2
    simp
  have hnone : ∀ l, look τa l = none ↔ look τ l = none := fun l => by
    have key : ∀ {xs ys : List (Nat × O)}, xs.map (·.1) = ys.map (·.1) → look xs l = none → look ys l = none := fun {xs ys} he hn => by
      refine look_none fun hm => ?_
      rw [← he] at hm
      obtain ⟨o, ho⟩ := look_some hm
      rw [hn] at ho; cases ho
    exact ⟨key hkeys, key hkeys.symm⟩
  have hE : Entry.of M ι (look τ) w = Entry.of M ι (look τa) w := by
    unfold Entry.of
    congr 1
    funext b
    refine propext ⟨?_, ?_⟩
    · rintro ⟨l, o, bd, h1, h2, h3⟩
      obtain ⟨a', h4, _⟩ := hle l o h1
      exact ⟨l, a', bd, h4, h2, h3⟩
    · rintro ⟨l, o, bd, h1, h2, h3⟩
      cases ht : look τ l with
      | none => rw [(hnone l).2 ht] at h1; cases h1
      | some o' => exact ⟨l, o', bd, ht, h2, h3⟩
  have hi1 : Inv (Entry.of M ι (look τ) w) M ι (look τ) w := by
    rw [hE]
    exact (hi.restart hσ).ole (H' := look τ) fun l o' ho' => hle l o' ho'
  have hkw : (someO τ').map (·.1) = τ'.map (·.1) := by simp [someO, Function.comp_def]
  unfold Oper.wp
  rw [hrun, Oper.upon_enter]
  have hall : RepVs M ι all (List.map a.eval c.args.toList ++ cs) := by
    rw [← ha]
    exact (RepVs.append ((plVs_le _).rep havs) ((plVs_le _).rep hcsr))
  refine (h M ι w _ hi1 hG hall (fun l h1 h2 => ?_)).mono ?_
  · refine hfr l ?_ fun hm => ?_
    · rw [hkw]
      cases hl : look τ' l with
      | none => exact absurd hl h1
      | some o' => exact List.mem_map.2 ⟨(l, o'), look_mem hl, rfl⟩
    · rw [hkeys] at hm
      obtain ⟨o', ho'⟩ := look_some hm; rw [h2] at ho'; cases ho'
  · rintro e w' ⟨M', ι', v, rfl, hg, hl, hinv, hv⟩
    rw [hE] at hinv
    have hfin := hi.call hσ hg (fun l h1 h2 => hl l ((hnone l).1 h1) h2) hinv
    have hmem : ∀ l, l ∈ τa.map (·.1) → l ∈ τ'.map (·.1) := fun l hm => subK_at hsub (by rw [← hkeys]; exact hm)
    have eU : H.upd (wrOf τa τ') = H.upd (someO τ') := funext fun l => by
      rw [upd_someO]
      by_cases hl' : l ∈ (τa ++ τ').map (·.1)
      · rw [wrOf, upd_map H (look τ') (τa ++ τ') l hl']
        have : l ∈ τ'.map (·.1) := by
          rw [List.map_append, List.mem_append] at hl'
          exact hl'.elim (hmem l) id
        obtain ⟨o, ho⟩ := look_some this
        rw [ho]
      · rw [Sto.upd_not H _ _ (by simpa [wrOf, Function.comp_def] using hl')]
        rw [List.map_append, List.mem_append, not_or] at hl'
        rw [look_none hl'.2]
    rw [eU] at hfin
    refine hk M' ι' w' v hg (fun l hnl => ?_) hfin hv
    rw [hkw] at hnl
    exact hl l ((hnone l).1 (look_none fun hm => hnl (hmem l hm))) (look_none hnl)
end Go.AM

/-
  An operation's effect, reckoned as a function of the state: what it asks, and what it leaves.
  Maps of the call's own: made, written, read.
  Functions compared with nil.
-/
import Derived.Test.YtdbgmmeenljnoaaGreatDoorAnA
import Derived.MapKept
import Derived.Carry
set_option linter.unusedVariables false
set_option linter.unusedSimpArgs false
namespace Go.AM
open Go Go.RowKit

/-! ### What is asked -/
structure Ask (p K : Prop) : Prop where
  a : p
  k : K
inductive IdxW (es : List (List D)) (i : Int) (n : Nat) (K : List D → Prop) : Prop
  | mk {el : List D} (h0 : 0 ≤ i) (h1 : es[i.toNat]? = some el) (h2 : el.length = n) (k : K el)
inductive ArrW (cs : List D) (i : Int) (len n : Nat) (K : List D → Prop) : Prop
  | mk {ds : List D} (h0 : 0 ≤ i) (h1 : i < len) (hd : (cs.drop (i.toNat * n)).take n = ds) (hl : ds.length = n) (k : K ds)
inductive LenW (es : List (List D)) (K : Nat → Prop) : Prop
  | mk {n : Nat} (h : es.length = n) (k : K n)
inductive EqW {α : Type} (x : α) (K : α → Prop) : Prop
  | mk {y : α} (h : x = y) (k : K y)
inductive AppW (es ys : List (List D)) (n : Nat) (K : List (List D) → Prop) : Prop
  | mk {zs : List (List D)} (hz : es ++ ys = zs) (hes : ∀ e ∈ es, e.length = n) (hys : ∀ e ∈ ys, e.length = n) (hb : es.length + ys.length ≤ 2000000000) (k : K zs)
inductive CutW (es : List (List D)) (lo hi : Int) (n : Nat) (K : List (List D) → Prop) : Prop
  | mk {fs : List (List D)} (hel : ∀ e ∈ es, e.length = n) (h0 : 0 ≤ lo) (h1 : lo ≤ hi) (h2 : hi ≤ es.length) (hf : (es.take hi.toNat).drop lo.toNat = fs) (k : K fs)
inductive BsW (es : List (List D)) (n : Nat) (K : List (List D) → Prop) : Prop
  | mk {fs : List (List D)} (h : es = fs) (hn : ∀ e ∈ fs, e.length = n) (k : K fs)

inductive ALdW (es : List (List D)) (i : Nat) (K : List D → Prop) : Prop
  | mk {el : List D} (h : es[i]? = some el) (k : K el)
inductive AStW (es : List (List D)) (i off n sz : Nat) (us : List D) (K : List (List D) → Prop) : Prop
  | mk {el : List D} {fs : List (List D)} (h : es[i]? = some el) (hf : Nat.ble (off + n) sz = true) (hl : us.length = n) (hw : es.set i (spl el off us) = fs) (k : K fs)

inductive EntW (σ : List (Nat × Option O)) (L : Nat) (K : Nat → IntKind → Int → Prop) : Prop
  | mk {l bm since clock : Nat} {seen : Array Nat} {ms : Array MapEntry} {e : MapEntry} {k : IntKind} {n : Int} (h1 : lo σ L = some (.raw none .cells (.mapIter (some bm) since (seen.push e.born) clock))) (h2 : lo σ l = some (.raw (some bm) .map (.map ms clock))) (he : e ∈ ms.toList) (hn : (ms.toList.map (·.born)).Nodup) (hk : e.key = .int k n) (kk : K l k n)

/-! ### Labels by other names -/
def rn : List (Nat × Nat) → Nat → Nat
  | [], l => l + 100000
  | (a, b) :: r, l => match Nat.beq a l with
    | true => b
    | false => rn r l
mutual
def rnV (π : List (Nat × Nat)) : V → V
  | .ptr l o => .ptr (rn π l) o
  | .own es l => .own es (rn π l)
  | .map l => .map (rn π l)
  | .clo f cs => .clo f (rnVs π cs)
  | .agg cs => .agg (rnVs π cs)
  | .tup cs => .tup (rnVs π cs)
  | .any => .any
  | .d x => .d x
  | .full es => .full es
  | .cptr cs => .cptr cs
  | .arr n l => .arr n (rn π l)
  | .aptr n l sz i o => .aptr n (rn π l) sz i o
  | .val v => .val v
def rnVs (π : List (Nat × Nat)) : List V → List V
  | [] => []
  | v :: r => rnV π v :: rnVs π r
end
def rnO (π : List (Nat × Nat)) : O → O
  | .cells vs t => .cells (rnVs π vs) t
  | .row n sz t => .row n sz t
  | .map es => .map es
  | .arr es sz t => .arr es sz t
  | .raw q tg ob => .raw q tg ob
def rnS (π : List (Nat × Nat)) : List (Nat × O) → List (Nat × O)
  | [] => []
  | (l, o) :: r => (rn π l, rnO π o) :: rnS π r
def piOk : List (Nat × Nat) → Bool
  | [] => true
  | (_, b) :: r => Nat.blt b 100000 && (r.all fun p => !Nat.beq p.2 b) && piOk r
theorem rn_lt {π : List (Nat × Nat)} (h : piOk π = true) {l : Nat} : (∃ p ∈ π, p.1 = l) → rn π l < 100000 ∧ ∃ p ∈ π, p.1 = l ∧ p.2 = rn π l := by
  induction π with
  | nil => rintro ⟨p, hp, _⟩; cases hp
  | cons p r ih =>
    obtain ⟨a, b⟩ := p
    simp only [piOk, Bool.and_eq_true] at h
    rintro ⟨q, hq, e⟩
    unfold rn
    cases hb : Nat.beq a l with
    | true => exact ⟨by simpa [Nat.blt_eq] using h.1.1, (a, b), List.mem_cons_self, Nat.eq_of_beq_eq_true hb, rfl⟩
    | false =>
      rcases List.mem_cons.1 hq with rfl | hq
      · rw [show a = l from e, Nat.beq_refl] at hb; cases hb
      · obtain ⟨h1, p, h2, h3⟩ := ih h.2 ⟨q, hq, e⟩
        exact ⟨h1, p, List.mem_cons_of_mem _ h2, h3⟩
theorem rn_out {π : List (Nat × Nat)} {l : Nat} : (¬ ∃ p ∈ π, p.1 = l) → rn π l = l + 100000 := by
  induction π with
  | nil => intro _; rfl
  | cons p r ih =>
    obtain ⟨a, b⟩ := p
    intro h
    unfold rn
    cases hb : Nat.beq a l with
    | true => exact absurd ⟨(a, b), List.mem_cons_self, Nat.eq_of_beq_eq_true hb⟩ h
    | false => exact ih fun ⟨q, hq, e⟩ => h ⟨q, List.mem_cons_of_mem _ hq, e⟩
theorem rn_inj {π : List (Nat × Nat)} (h : piOk π = true) {l l' : Nat} (e : rn π l = rn π l') : l = l' := by
  by_cases h1 : ∃ p ∈ π, p.1 = l
  · by_cases h2 : ∃ p ∈ π, p.1 = l'
    · -- the first of its key, on both sides
      clear h1 h2
      induction π with
      | nil => simpa [rn] using e
      | cons p r ih =>
        obtain ⟨a, b⟩ := p
        have h' := h
        simp only [piOk, Bool.and_eq_true, List.all_eq_true, Bool.not_eq_true'] at h
        unfold rn at e
        have key : ∀ l, rn r l = b → False := fun l hl => by
          by_cases hin : ∃ p ∈ r, p.1 = l
          · obtain ⟨_, p, hp, _, e2⟩ := rn_lt h.2 hin
            have := h.1.2 p hp
            rw [e2, hl, Nat.beq_refl] at this; cases this
          · rw [rn_out hin] at hl
            have : b < 100000 := by simpa [Nat.blt_eq] using h.1.1
            omega
        cases hb : Nat.beq a l with
        | true =>
          cases hb' : Nat.beq a l' with
          | true => rw [← Nat.eq_of_beq_eq_true hb, ← Nat.eq_of_beq_eq_true hb']
          | false => rw [hb, hb'] at e; exact (key l' e.symm).elim
        | false =>
          cases hb' : Nat.beq a l' with
          | true => rw [hb, hb'] at e; exact (key l e).elim
          | false => rw [hb, hb'] at e; exact ih h.2 e
    · rw [rn_out h2] at e
      have := (rn_lt h h1).1
      omega
  · by_cases h2 : ∃ p ∈ π, p.1 = l'
    · rw [rn_out h1] at e
      have := (rn_lt h h2).1
      omega
    · rw [rn_out h1, rn_out h2] at e; omega
mutual
theorem RepV.rn {M : Mem} {ι ι' : Env} {π : List (Nat × Nat)} (h : ∀ l, ι' (AM.rn π l) = ι l) : ∀ (x : V) (v : Value), RepV M ι x v ↔ RepV M ι' (rnV π x) v
  | .any, _ => by simp only [rnV, RepV]
  | .d x, v => by simp only [rnV, RepV]
  | .full es, v => by simp only [rnV, RepV]
  | .cptr cs, v => by simp only [rnV, RepV]
  | .ptr l off, v => by simp only [rnV, RepV, h]
  | .map l, v => by simp only [rnV, RepV, h]
  | .own es l, v => by simp only [rnV, RepV, h]
  | .arr n l, v => by simp only [rnV, RepV, h]
  | .aptr n l sz i o, v => by simp only [rnV, RepV, h]
  | .val u, v => by simp only [rnV, RepV]
  | .clo f cs, v => by simp only [rnV, RepV]; exact exists_congr fun vs => and_congr_right fun _ => RepVs.rn h cs vs
  | .agg cs, v => by simp only [rnV, RepV]; exact exists_congr fun vs => and_congr_right fun _ => and_congr_left fun _ => RepVs.rn h cs vs
  | .tup cs, v => by simp only [rnV, RepV]; exact exists_congr fun vs => and_congr_right fun _ => RepVs.rn h cs vs
theorem RepVs.rn {M : Mem} {ι ι' : Env} {π : List (Nat × Nat)} (h : ∀ l, ι' (AM.rn π l) = ι l) : ∀ (xs : List V) (l : List Value), RepVs M ι xs l ↔ RepVs M ι' (rnVs π xs) l
  | [], _ => by simp only [rnVs, RepVs]
  | c :: cs, l => by
    simp only [rnVs, RepVs]
    exact exists_congr fun v => exists_congr fun r => and_congr_right fun _ => and_congr (RepV.rn h c v) (RepVs.rn h cs r)
end
theorem ORep.rn {M : Mem} {ι ι' : Env} {π : List (Nat × Nat)} (h : ∀ l, ι' (AM.rn π l) = ι l) {w : World} {bd : Bind} (o : O) : ORep M ι w bd o ↔ ORep M ι' w bd (rnO π o) := by
  cases o with
  | cells vs t =>
    simp only [rnO, ORep]
    exact and_congr_right fun _ => exists_congr fun b => exists_congr fun cs => and_congr_right fun _ => and_congr_right fun _ => and_congr_left fun _ => RepVs.rn h vs cs
  | row n sz t => exact Iff.rfl
  | map es => exact Iff.rfl
  | arr es sz t => exact Iff.rfl
  | raw q tg ob => exact Iff.rfl
theorem rnO_holds (π : List (Nat × Nat)) (o : O) (n : Nat) : (rnO π o).holds n = o.holds n := by cases o <;> rfl
theorem look_rnS {π : List (Nat × Nat)} (hp : piOk π = true) (σ : List (Nat × O)) (l : Nat) : look (rnS π σ) (rn π l) = (look σ l).map (rnO π) := by
  induction σ with
  | nil => rfl
  | cons p r ih =>
    obtain ⟨k, o⟩ := p
    simp only [rnS, look_cons]
    by_cases e : k = l
    · subst e; simp
    · rw [if_neg (fun x => e (rn_inj hp x)), if_neg e]; exact ih
theorem look_rnS_some {π : List (Nat × Nat)} {σ : List (Nat × O)} {k : Nat} {o : O} (h : look (rnS π σ) k = some o) : ∃ l, k = rn π l := by
  induction σ with
  | nil => cases h
  | cons p r ih =>
    obtain ⟨l, o'⟩ := p
    simp only [rnS, look_cons] at h
    split at h
    · rename_i e; exact ⟨l, e.symm⟩
    · exact ih h
theorem Inv.rn {E : Entry} {M : Mem} {ι ι' : Env} {π : List (Nat × Nat)} (hp : piOk π = true) (h : ∀ l, ι' (AM.rn π l) = ι l) {σ : List (Nat × O)} {w : World} : Inv E M ι (look σ) w ↔ Inv E M ι' (look (rnS π σ)) w := by
  have fwd : ∀ {l o}, look σ l = some o → look (rnS π σ) (AM.rn π l) = some (rnO π o) := fun {l o} ho => by rw [look_rnS hp, ho]; rfl
  have bwd : ∀ {k o}, look (rnS π σ) k = some o → ∃ l o', k = AM.rn π l ∧ o = rnO π o' ∧ look σ l = some o' := fun {k o} ho => by
    obtain ⟨l, rfl⟩ := look_rnS_some ho
    rw [look_rnS hp, Option.map_eq_some_iff] at ho
    obtain ⟨o', h1, rfl⟩ := ho
    exact ⟨l, o', rfl, rfl, h1⟩
  constructor
  · intro hi
    refine ⟨hi.mem, ?_, ?_, ?_, ?_, hi.le, hi.new, hi.size, hi.os, hi.tape, hi.output, hi.frame⟩
    · intro k o ho
      obtain ⟨l, o', rfl, rfl, h1⟩ := bwd ho
      obtain ⟨bd, h2, h3⟩ := hi.obj l o' h1
      exact ⟨bd, by rw [h]; exact h2, (ORep.rn h o').1 h3⟩
    · intro k k' o o' bd bd' b ho ho' hb hb' hk hk'
      obtain ⟨l, _, rfl, rfl, h1⟩ := bwd ho
      obtain ⟨l', _, rfl, rfl, h1'⟩ := bwd ho'
      rw [h] at hb hb'
      rw [hi.inj l l' _ _ bd bd' b h1 h1' hb hb' hk hk']
    · intro k o bd b ho hb hk a v hv hab
      obtain ⟨l, _, rfl, rfl, h1⟩ := bwd ho
      rw [h] at hb
      rw [rnO_holds]
      exact hi.sep l _ bd b h1 hb hk a v hv hab
    · intro k o bd b ho hb hk
      obtain ⟨l, _, rfl, rfl, h1⟩ := bwd ho
      rw [h] at hb
      exact hi.own l _ bd b h1 hb hk
  · intro hi
    refine ⟨hi.mem, ?_, ?_, ?_, ?_, hi.le, hi.new, hi.size, hi.os, hi.tape, hi.output, hi.frame⟩
    · intro l o ho
      obtain ⟨bd, h2, h3⟩ := hi.obj _ _ (fwd ho)
      rw [h] at h2
      exact ⟨bd, h2, (ORep.rn h o).2 h3⟩
    · intro l l' o o' bd bd' b ho ho' hb hb' hk hk'
      exact rn_inj hp (hi.inj _ _ _ _ bd bd' b (fwd ho) (fwd ho') (by rw [h]; exact hb) (by rw [h]; exact hb') hk hk')
    · intro l o bd b ho hb hk a v hv hab
      rw [← rnO_holds π]
      exact hi.sep _ _ bd b (fwd ho) (by rw [h]; exact hb) hk a v hv hab
    · intro l o bd b ho hb hk
      exact hi.own _ _ bd b (fwd ho) (by rw [h]; exact hb) hk
theorem Entry.rn {M : Mem} {ι ι' : Env} {π : List (Nat × Nat)} (hp : piOk π = true) (h : ∀ l, ι' (AM.rn π l) = ι l) (σ : List (Nat × O)) (w : World) : Entry.of M ι' (look (rnS π σ)) w = Entry.of M ι (look σ) w := by
  unfold Entry.of
  congr 1
  funext b
  refine propext ⟨?_, ?_⟩
  · rintro ⟨k, o, bd, h1, h2, h3⟩
    obtain ⟨l, rfl⟩ := look_rnS_some h1
    rw [look_rnS hp, Option.map_eq_some_iff] at h1
    obtain ⟨o', h4, rfl⟩ := h1
    exact ⟨l, o', bd, h4, by rw [← h]; exact h2, h3⟩
  · rintro ⟨l, o, bd, h1, h2, h3⟩
    exact ⟨AM.rn π l, rnO π o, bd, by rw [look_rnS hp, h1]; rfl, by rw [h]; exact h2, h3⟩
/-- A contract, its labels renamed. -/
theorem Ev.rn {P : Program} {G : Gl} {f : FuncId} {args : List V} {σ : List (Nat × O)} {ret : V} {σ' : List (Nat × O)} {π : List (Nat × Nat)} (hp : piOk π = true) (h : Ev P G f args σ ret σ') : Ev P G f (rnVs π args) (rnS π σ) (rnV π ret) (rnS π σ') := by
  refine ⟨h.1, fun M ι w cargs hi hG hargs hfr => ?_⟩
  let ι0 : Env := fun l => ι (AM.rn π l)
  have h0 : ∀ l, ι (AM.rn π l) = ι0 l := fun _ => rfl
  have he := Entry.rn (M := M) hp h0 σ w
  rw [he] at hi
  have hi0 := (Inv.rn hp h0).2 hi
  have hnone : ∀ {τ : List (Nat × O)} {l : Nat}, look (rnS π τ) (AM.rn π l) = none ↔ look τ l = none := fun {τ l} => by rw [look_rnS hp]; simp
  refine (h.2 M ι0 w cargs hi0 hG ((RepVs.rn h0 _ _).2 hargs) (fun l h1 h2 => hfr (AM.rn π l) (fun e => h1 (hnone.1 e)) (hnone.2 h2))).mono ?_
  rintro e w' ⟨M', ι1, v, rfl, hg, hl, hinv, hv⟩
  classical
  let ι1' : Env := fun k => if hk : ∃ l, AM.rn π l = k ∧ ¬ (look σ l = none ∧ look σ' l = none) then ι1 hk.choose else ι k
  have h1 : ∀ l, ι1' (AM.rn π l) = ι1 l := fun l => by
    show (if hk : ∃ l', AM.rn π l' = AM.rn π l ∧ ¬ (look σ l' = none ∧ look σ' l' = none) then ι1 hk.choose else ι (AM.rn π l)) = ι1 l
    by_cases hk : ∃ l', AM.rn π l' = AM.rn π l ∧ ¬ (look σ l' = none ∧ look σ' l' = none)
    · rw [dif_pos hk, rn_inj hp hk.choose_spec.1]
    · rw [dif_neg hk]
      have : look σ l = none ∧ look σ' l = none := Classical.byContradiction fun hn => hk ⟨l, rfl, hn⟩
      exact (hl l this.1 this.2).symm
  have hout : ∀ k, (¬ ∃ l, AM.rn π l = k ∧ ¬ (look σ l = none ∧ look σ' l = none)) → ι1' k = ι k := fun k hk => by
    show (if hk : ∃ l', AM.rn π l' = k ∧ ¬ (look σ l' = none ∧ look σ' l' = none) then ι1 hk.choose else ι k) = ι k
    rw [dif_neg hk]
  refine ⟨M', ι1', v, rfl, ⟨hg.mem, fun k bd hk => ?_⟩, fun k e1 e2 => ?_, ?_, (RepV.rn h1 _ _).1 hv⟩
  · by_cases hc : ∃ l, AM.rn π l = k ∧ ¬ (look σ l = none ∧ look σ' l = none)
    · obtain ⟨l, rfl, _⟩ := hc
      rw [h1]
      exact hg.env l bd hk
    · rw [hout k hc]; exact ⟨bd, hk, .inl rfl⟩
  · refine hout k ?_
    rintro ⟨l, rfl, hn⟩
    exact hn ⟨hnone.1 e1, hnone.1 e2⟩
  · rw [he]; exact (Inv.rn hp h1).1 hinv

def rnK (π : List (Nat × Nat)) (l : Nat) (k : Nat → Prop) : Prop := match π with
  | [] => k (l + 100000)
  | (a, b) :: r => match Nat.beq a l with
    | true => k b
    | false => rnK r l k
theorem rnK_iff : ∀ {π : List (Nat × Nat)} {l : Nat} {k : Nat → Prop}, rnK π l k ↔ k (rn π l)
  | [], l, k => Iff.rfl
  | (a, b) :: r, l, k => by
    unfold rnK rn
    cases Nat.beq a l with
    | true => exact Iff.rfl
    | false => exact rnK_iff

/-! ### Calls -/
/-- The objects that are handed over, as the callee asks for them. -/
def selO (σ : List (Nat × Option O)) : List (Nat × O) → List (Nat × O)
  | [] => []
  | (l, o) :: r => match lo σ l with
    | some a => (l, coO o a) :: selO σ r
    | none => []
def actO (σ : List (Nat × Option O)) : List (Nat × O) → List (Nat × O)
  | [] => []
  | (l, o) :: r => match lo σ l with
    | some a => (l, a) :: actO σ r
    | none => []
def appO (τ : List (Nat × O)) (σ : List (Nat × Option O)) (k : List (Nat × Option O) → Prop) : Prop := match τ with
  | [] => k σ
  | (l, o) :: r => appO r σ fun σ' => k ((l, some o) :: σ')
theorem appO_iff : ∀ {τ : List (Nat × O)} {σ : List (Nat × Option O)} {k : List (Nat × Option O) → Prop}, appO τ σ k ↔ k (someO τ ++ σ)
  | [], σ, k => Iff.rfl
  | (l, o) :: r, σ, k => by unfold appO; rw [appO_iff]; rfl
def appN (xs ls : List Nat) (k : List Nat → Prop) : Prop := match xs with
  | [] => k ls
  | x :: r => appN r ls fun ls' => k (x :: ls')
theorem appN_iff : ∀ {xs ls : List Nat} {k : List Nat → Prop}, appN xs ls k ↔ k (xs ++ ls)
  | [], ls, k => Iff.rfl
  | x :: r, ls, k => by unfold appN; rw [appN_iff]; rfl
def keysK (τ : List (Nat × O)) (k : List Nat → Prop) : Prop := match τ with
  | [] => k []
  | (l, _) :: r => keysK r fun ls => k (l :: ls)
theorem keysK_iff : ∀ {τ : List (Nat × O)} {k : List Nat → Prop}, keysK τ k ↔ k (τ.map (·.1))
  | [], k => Iff.rfl
  | (l, o) :: r, k => by unfold keysK; rw [keysK_iff]; rfl
def putK (ρ : List (Nat × V)) (d : Option Nat) (v : V) (k : List (Nat × V) → Prop) : Prop := match d with
  | some d => k ((d, v) :: ρ)
  | none => k ρ
theorem putK_iff {ρ : List (Nat × V)} {d : Option Nat} {v : V} {k : List (Nat × V) → Prop} : putK ρ d v k ↔ k (putL ρ d v) := by cases d <;> exact Iff.rfl
/-- What is left behind a call. -/
def behind (ret : V) (τ τ' : List (Nat × O)) (ρ : List (Nat × V)) (σ : List (Nat × Option O)) (ls : List Nat) (d : Option Nat) (K : List Nat → List Nat → List (Nat × V) → List (Nat × Option O) → List Nat → Prop) : Prop :=
  fV ret fun ret => fSig τ' fun τ' => keysK τ fun rl => keysK τ' fun wl => appO τ' σ fun σ' => appN wl ls fun ls' => putK ρ d ret fun ρ' => K rl wl ρ' σ' ls'
theorem behind_iff {ret : V} {τ τ' : List (Nat × O)} {ρ : List (Nat × V)} {σ : List (Nat × Option O)} {ls : List Nat} {d : Option Nat} {K : List Nat → List Nat → List (Nat × V) → List (Nat × Option O) → List Nat → Prop} :
    behind ret τ τ' ρ σ ls d K ↔ K (τ.map (·.1)) (τ'.map (·.1)) (putL ρ d ret) (someO τ' ++ σ) (τ'.map (·.1) ++ ls) := by
  unfold behind; rw [fV_iff, fSig_iff, keysK_iff, keysK_iff, appO_iff, appN_iff, putK_iff]
mutual
def rnVK (π : List (Nat × Nat)) (v : V) (k : V → Prop) : Prop := match v with
  | .ptr l o => rnK π l fun l => k (.ptr l o)
  | .own es l => rnK π l fun l => k (.own es l)
  | .map l => rnK π l fun l => k (.map l)
  | .clo f cs => rnVsK π cs fun cs => k (.clo f cs)
  | .agg cs => rnVsK π cs fun cs => k (.agg cs)
  | .tup cs => rnVsK π cs fun cs => k (.tup cs)
  | .any => k .any
  | .d x => fD x fun x => k (.d x)
  | .full es => k (.full es)
  | .cptr cs => fDs cs fun cs => k (.cptr cs)
  | .arr n l => rnK π l fun l => k (.arr n l)
  | .aptr n l sz i o => rnK π l fun l => k (.aptr n l sz i o)
  | .val v => k (.val v)
def rnVsK (π : List (Nat × Nat)) (vs : List V) (k : List V → Prop) : Prop := match vs with
  | [] => k []
  | v :: r => rnVK π v fun v => rnVsK π r fun r => k (v :: r)
end
mutual
theorem rnVK_iff {π : List (Nat × Nat)} : ∀ {v : V} {k : V → Prop}, rnVK π v k ↔ k (rnV π v)
  | .any, k => by unfold rnVK rnV; exact Iff.rfl
  | .d x, k => by unfold rnVK rnV; rw [fD_iff]
  | .full es, k => by unfold rnVK rnV; exact Iff.rfl
  | .ptr l o, k => by unfold rnVK rnV; rw [rnK_iff]
  | .cptr cs, k => by unfold rnVK rnV; rw [fDs_iff]
  | .own es l, k => by unfold rnVK rnV; rw [rnK_iff]
  | .clo f cs, k => by unfold rnVK rnV; rw [rnVsK_iff]
  | .map l, k => by unfold rnVK rnV; rw [rnK_iff]
  | .agg cs, k => by unfold rnVK rnV; rw [rnVsK_iff]
  | .tup cs, k => by unfold rnVK rnV; rw [rnVsK_iff]
  | .arr n l, k => by unfold rnVK rnV; rw [rnK_iff]
  | .aptr n l sz i o, k => by unfold rnVK rnV; rw [rnK_iff]
  | .val v, k => by unfold rnVK rnV; exact Iff.rfl
theorem rnVsK_iff {π : List (Nat × Nat)} : ∀ {vs : List V} {k : List V → Prop}, rnVsK π vs k ↔ k (rnVs π vs)
  | [], k => by unfold rnVsK rnVs; exact Iff.rfl
  | v :: r, k => by unfold rnVsK rnVs; rw [rnVK_iff, rnVsK_iff]
end
def rnSK (π : List (Nat × Nat)) (σ : List (Nat × O)) (k : List (Nat × O) → Prop) : Prop := match σ with
  | [] => k []
  | (l, .cells vs t) :: r => rnK π l fun l => rnVsK π vs fun vs => rnSK π r fun r => k ((l, .cells vs t) :: r)
  | (l, .row n sz t) :: r => rnK π l fun l => rnSK π r fun r => k ((l, .row n sz t) :: r)
  | (l, .map es) :: r => rnK π l fun l => rnSK π r fun r => k ((l, .map es) :: r)
  | (l, .arr es sz t) :: r => rnK π l fun l => rnSK π r fun r => k ((l, .arr es sz t) :: r)
  | (l, .raw q tg ob) :: r => rnK π l fun l => rnSK π r fun r => k ((l, .raw q tg ob) :: r)
theorem rnSK_iff {π : List (Nat × Nat)} : ∀ {σ : List (Nat × O)} {k : List (Nat × O) → Prop}, rnSK π σ k ↔ k (rnS π σ)
  | [], k => Iff.rfl
  | (l, .cells vs t) :: r, k => by unfold rnSK; rw [rnK_iff, rnVsK_iff, rnSK_iff]; rfl
  | (l, .row n sz t) :: r, k => by unfold rnSK; rw [rnK_iff, rnSK_iff]; rfl
  | (l, .map es) :: r, k => by unfold rnSK; rw [rnK_iff, rnSK_iff]; rfl
  | (l, .arr es sz t) :: r, k => by unfold rnSK; rw [rnK_iff, rnSK_iff]; rfl
  | (l, .raw q tg ob) :: r, k => by unfold rnSK; rw [rnK_iff, rnSK_iff]; rfl
inductive PIdxW (i : Int) (len : Nat) (K : Nat → Prop) : Prop
  | mk {m : Nat} (h : i = (m : Int)) (hm : m < len) (k : K m)
inductive CallW (P : Program) (G : Gl) (f : FuncId) (vals caps : List V) (ρ : List (Nat × V)) (σ : List (Nat × Option O)) (ls : List Nat) (d : Option Nat) (K : List Nat → List Nat → List (Nat × V) → List (Nat × Option O) → List Nat → Prop) : Prop
  | mk {all : List V} {ret : V} {τ τ' : List (Nat × O)} (hev : Ev P G f all τ ret τ') (ha : plVs vals ++ plVs caps = all) (hσ : selO σ τ = τ) (hk : subK τ τ' = true) (hfr : freshK τ τ' ls = true)
      (k : behind ret τ τ' ρ σ ls d K)
theorem callW {P : Program} {G : Gl} {f : FuncId} {vals caps : List V} {ρ : List (Nat × V)} {σ : List (Nat × Option O)} {ls : List Nat} {d : Option Nat} {K : List Nat → List Nat → List (Nat × V) → List (Nat × Option O) → List Nat → Prop} {all : List V} {ret : V} {τ τ' : List (Nat × O)} (π : List (Nat × Nat)) (hev : Ev P G f all τ ret τ') (hπ : piOk π = true)
    (ha : plVs vals ++ plVs caps = rnVs π all) (hσ : selO σ (rnS π τ) = rnS π τ) (hk : subK (rnS π τ) (rnS π τ') = true) (hfr : freshK (rnS π τ) (rnS π τ') ls = true)
    (k : rnVK π ret fun ret => rnSK π τ fun τ => rnSK π τ' fun τ' => behind ret τ τ' ρ σ ls d K) : CallW P G f vals caps ρ σ ls d K := by
  refine .mk (hev.rn hπ) ha hσ hk hfr ?_
  rw [rnVK_iff, rnSK_iff, rnSK_iff] at k
  exact k
theorem callW0 {P : Program} {G : Gl} {f : FuncId} {vals caps : List V} {ρ : List (Nat × V)} {σ : List (Nat × Option O)} {ls : List Nat} {d : Option Nat} {K : List Nat → List Nat → List (Nat × V) → List (Nat × Option O) → List Nat → Prop} {all : List V} {ret : V} (hev : Ev P G f all [] ret []) (ha : plVs vals ++ plVs caps = all)
    (k : fV ret fun ret => putK ρ d ret fun ρ => K [] [] ρ σ ls) : CallW P G f vals caps ρ σ ls d K := by
  refine .mk hev ha rfl rfl rfl ?_
  rw [fV_iff, putK_iff] at k
  rw [behind_iff]
  exact k
theorem selO_act {σ : List (Nat × Option O)} : ∀ {τ : List (Nat × O)}, selO σ τ = τ → (actO σ τ).map (·.1) = τ.map (·.1) ∧ (∀ l o, (l, o) ∈ actO σ τ → lookO σ l = some o) ∧ ∀ l o, look τ l = some o → ∃ a, look (actO σ τ) l = some a ∧ OLe a o
  | [], _ => ⟨rfl, (fun l o (h : (l, o) ∈ []) => by cases h), fun l o (h : none = some o) => by cases h⟩
  | (k, o) :: r, h => by
    unfold selO at h
    unfold actO
    split at h
    · rename_i a ha
      simp only [List.cons.injEq, Prod.mk.injEq, true_and] at h
      obtain ⟨h1, h2, h3⟩ := selO_act h.2
      refine ⟨by simp [h1], fun l o' hm => ?_, fun l o' hl => ?_⟩
      · rcases List.mem_cons.1 hm with e | hm
        · injection e with e1 e2; subst e1; subst e2; rw [← lo_eq]; exact ha
        · exact h2 l o' hm
      · simp only [look_cons] at hl ⊢
        split at hl
        · rename_i e
          injection hl with hl; subst hl
          rw [if_pos e]
          exact ⟨a, rfl, by have := coO_le o a; rwa [h.1] at this⟩
        · rename_i e; rw [if_neg e]; exact h3 l o' hl
    · cases h
theorem aop_callW {P : Program} {G : Gl} {o : Oper} {c : Call} {f : FuncId} {vals caps all : List V} {x : V} {τa τ τ' : List (Nat × O)} {ret : V} {fo : Operand} (ho : o.op = .call c) (hc : c.callee = .value fo) (hx : x = .clo f caps ∨ (x = .d (.fn f) ∧ caps = []))
    (hev : Ev P G f all τ ret τ') (ha : plVs vals ++ plVs caps = all) (hkeys : τa.map (·.1) = τ.map (·.1)) (hle : ∀ l o, look τ l = some o → ∃ a, look τa l = some a ∧ OLe a o) (hsub : subK τ τ' = true) : AOp P G o (x :: vals) τa (someO τ') ret := by
  intro E M ι H w a next Q hi hG hfp hvs hfr hk
  obtain ⟨hcall, h⟩ := hev
  have hops : o.op.operands.toList = fo :: c.args.toList := by rw [ho]; simp [Op.operands, Call.operands, hc]
  rw [hops] at hvs
  simp only [List.map_cons, RepVs] at hvs
  obtain ⟨fv, avs, e1, hfv, havs⟩ := hvs
  injection e1 with e1 e2
  subst e1; subst e2
  obtain ⟨cs, hcs, hcsr⟩ : ∃ cs : List Value, a.eval fo = .func (.func f) #[] cs.toArray ∧ RepVs M ι caps cs := by
    rcases hx with rfl | ⟨rfl, rfl⟩
    · simp only [RepV] at hfv
      obtain ⟨vs, e1, e2⟩ := hfv; exact ⟨vs, e1, e2⟩
    · simp only [RepV, RepD] at hfv
      exact ⟨[], by rw [hfv], by simp [RepVs]⟩
  have hσ : ∀ l o', look τa l = some o' → H l = some o' := fun l o' hl => hfp l o' (look_mem hl)
  have hrun : (execOp a.eval o).run P w = .ok (.enter f ((c.args.toList.map a.eval) ++ cs).toArray) w := by
    simp only [execOp, ho, resolve_value hc, hcs, Deferred.ofValue, Sem.run_bind, Sem.run_pure, Result.andThen_ok, invoke]
    rw [run_callFunc hcall]
    congr 2
    simp
  have hnone : ∀ l, look τa l = none ↔ look τ l = none := fun l => by
    have key : ∀ {xs ys : List (Nat × O)}, xs.map (·.1) = ys.map (·.1) → look xs l = none → look ys l = none := fun {xs ys} he hn => by
      refine look_none fun hm => ?_
      rw [← he] at hm
      obtain ⟨o, ho⟩ := look_some hm
      rw [hn] at ho; cases ho
    exact ⟨key hkeys, key hkeys.symm⟩
  have hE : Entry.of M ι (look τ) w = Entry.of M ι (look τa) w := by
    unfold Entry.of
    congr 1
    funext b
    refine propext ⟨?_, ?_⟩
    · rintro ⟨l, o, bd, h1, h2, h3⟩
      obtain ⟨a', h4, _⟩ := hle l o h1
      exact ⟨l, a', bd, h4, h2, h3⟩
    · rintro ⟨l, o, bd, h1, h2, h3⟩
      cases ht : look τ l with
      | none => rw [(hnone l).2 ht] at h1; cases h1
      | some o' => exact ⟨l, o', bd, ht, h2, h3⟩
  have hi1 : Inv (Entry.of M ι (look τ) w) M ι (look τ) w := by
    rw [hE]
    exact (hi.restart hσ).ole (H' := look τ) fun l o' ho' => hle l o' ho'
  have hkw : (someO τ').map (·.1) = τ'.map (·.1) := by simp [someO, Function.comp_def]
  unfold Oper.wp
  rw [hrun, Oper.upon_enter]
  have hall : RepVs M ι all (List.map a.eval c.args.toList ++ cs) := by
    rw [← ha]
    exact (RepVs.append ((plVs_le _).rep havs) ((plVs_le _).rep hcsr))
  refine (h M ι w _ hi1 hG hall (fun l h1 h2 => ?_)).mono ?_
  · refine hfr l ?_ fun hm => ?_
    · rw [hkw]
      cases hl : look τ' l with
      | none => exact absurd hl h1
      | some o' => exact List.mem_map.2 ⟨(l, o'), look_mem hl, rfl⟩
    · rw [hkeys] at hm
      obtain ⟨o', ho'⟩ := look_some hm; rw [h2] at ho'; cases ho'
  · rintro e w' ⟨M', ι', v, rfl, hg, hl, hinv, hv⟩
    rw [hE] at hinv
    have hfin := hi.call hσ hg (fun l h1 h2 => hl l ((hnone l).1 h1) h2) hinv
    have hmem : ∀ l, l ∈ τa.map (·.1) → l ∈ τ'.map (·.1) := fun l hm => subK_at hsub (by rw [← hkeys]; exact hm)
    have eU : H.upd (wrOf τa τ') = H.upd (someO τ') := funext fun l => by
      rw [upd_someO]
      by_cases hl' : l ∈ (τa ++ τ').map (·.1)
      · rw [wrOf, upd_map H (look τ') (τa ++ τ') l hl']
        have : l ∈ τ'.map (·.1) := by
          rw [List.map_append, List.mem_append] at hl'
          exact hl'.elim (hmem l) id
        obtain ⟨o, ho⟩ := look_some this
        rw [ho]
      · rw [Sto.upd_not H _ _ (by simpa [wrOf, Function.comp_def] using hl')]
        rw [List.map_append, List.mem_append, not_or] at hl'
        rw [look_none hl'.2]
    rw [eU] at hfin
    refine hk M' ι' w' v hg (fun l hnl => ?_) hfin hv
    rw [hkw] at hnl
    exact hl l ((hnone l).1 (look_none fun hm => hnl (hmem l hm))) (look_none hnl)
end Go.AM
set_option linter.unusedVariables false
set_option linter.unusedSimpArgs false
namespace Go.AM
open Go Go.RowKit Go.MapKept

def beqD : D → D → Bool
  | .int k a, .int k' b => (k == k') && (a == b)
  | .str a, .str b => a == b
  | .bool a, .bool b => a == b
  | _, _ => false
def dset : List (D × V) → D → V → List (D × V)
  | [], k, v => [(k, v)]
  | (a, x) :: r, k, v => match beqD a k with
    | true => (k, v) :: r
    | false => (a, x) :: dset r k v
def dget : List (D × V) → D → Option V
  | [], _ => none
  | (a, x) :: r, k => match beqD a k with
    | true => some x
    | false => dget r k
theorem isKey_of {M : Mem} {kc : Nat} {k : D} {v : Value} (h : kcOk kc k = true) (hr : RepD M k v) : IsKey (descOf kc) v := by
  unfold kcOk at h
  split at h <;> first | (simp only [RepD] at hr; subst hr; simp [descOf, IsKey]) | cases h
theorem beqD_iff {M : Mem} {kc : Nat} {a k : D} {u v : Value} (ha : kcOk kc a = true) (hk : kcOk kc k = true) (h1 : RepD M a u) (h2 : RepD M k v) : beqD a k = true ↔ u = v := by
  unfold kcOk at ha hk
  split at ha
  all_goals first | cases ha | skip
  all_goals (split at hk <;> first | cases hk | skip)
  all_goals simp_all [RepD, beqD, MapKept.bytes_beq]
theorem dset_keys {kc : Nat} {k : D} {v : V} (hk : kcOk kc k = true) : ∀ {es : List (D × V)}, (∀ p ∈ es, kcOk kc p.1 = true) → ∀ p ∈ dset es k v, kcOk kc p.1 = true
  | [], _, p, hp => by simp [dset] at hp; subst hp; exact hk
  | (a, x) :: r, h, p, hp => by
    unfold dset at hp
    split at hp
    · rcases List.mem_cons.1 hp with rfl | hp
      · exact hk
      · exact h p (List.mem_cons_of_mem _ hp)
    · rcases List.mem_cons.1 hp with rfl | hp
      · exact h (a, x) List.mem_cons_self
      · exact dset_keys hk (fun q hq => h q (List.mem_cons_of_mem _ hq)) p hp
/-- What is found in the entries, and what is put into them. -/
theorem find_es {M : Mem} {kc : Nat} {k : D} {kv : Value} {x : V} {xv : Value} (hk : kcOk kc k = true) (hr : RepD M k kv) (hon : x.on [] = true) (hx : RepV M (fun _ => none) x xv) : ∀ {es : List (D × V)} {ms : List MapEntry} (i : Nat), (∀ p ∈ es, kcOk kc p.1 = true) → RepEs M es ms →
    (Instr.findNow (descOf kc) kv ms i = some none ∧ dget es k = none ∧ ∀ b, RepEs M (dset es k x) (ms ++ [⟨kv, xv, b⟩])) ∨
    ∃ j e y, Instr.findNow (descOf kc) kv ms i = some (some (i + j, e.val)) ∧ ms[j]? = some e ∧ e.key = kv ∧ dget es k = some y ∧ RepV M (fun _ => none) y e.val ∧ RepEs M (dset es k x) (ms.set j ⟨kv, xv, e.born⟩)
  | [], ms, i, _, h => by
    simp only [RepEs] at h; subst h
    exact .inl ⟨rfl, rfl, fun b => ⟨_, _, rfl, hr, hon, hx, rfl⟩⟩
  | (a, y) :: r, ms, i, hkeys, h => by
    obtain ⟨e, ms', rfl, h1, h2, h3, h4⟩ := h
    have hka := hkeys (a, y) List.mem_cons_self
    obtain ⟨q, hq, hiff⟩ := sameNow_of_keys (isKey_of hk hr) (isKey_of hka h1)
    have hb := beqD_iff hka hk h1 hr
    cases q with
    | true =>
      have e1 : kv = e.key := hiff.1 rfl
      have e2 : beqD a k = true := hb.2 e1.symm
      refine .inr ⟨0, e, y, by simp [Instr.findNow, hq], rfl, e1.symm, by simp [dget, e2], h3, ?_⟩
      simp only [dset, e2, List.set_cons_zero]
      exact ⟨_, _, rfl, hr, hon, hx, h4⟩
    | false =>
      have e2 : beqD a k = false := by
        cases hbb : beqD a k with
        | false => rfl
        | true => have := hiff.2 (hb.1 hbb).symm; cases this
      rcases find_es hk hr hon hx (i + 1) (fun p hp => hkeys p (List.mem_cons_of_mem _ hp)) h4 with ⟨f1, f2, f3⟩ | ⟨j, e', y', f1, f2, f3, f4, f5, f6⟩
      · refine .inl ⟨by simp [Instr.findNow, hq, f1], by simp [dget, e2, f2], fun b => ?_⟩
        simp only [dset, e2, List.cons_append]
        exact ⟨_, _, rfl, h1, h2, h3, f3 b⟩
      · refine .inr ⟨j + 1, e', y', by simp [Instr.findNow, hq, f1]; omega, by simpa using f2, f3, by simp [dget, e2, f4], f5, ?_⟩
        simp only [dset, e2, List.set_cons_succ]
        exact ⟨_, _, rfl, h1, h2, h3, f6⟩
theorem RepEs.keys {M : Mem} {kc : Nat} : ∀ {es : List (D × V)} {ms : List MapEntry}, (∀ p ∈ es, kcOk kc p.1 = true) → RepEs M es ms → ∀ x ∈ ms, IsKey (descOf kc) x.key
  | [], ms, _, h, x, hx => by simp only [RepEs] at h; subst h; cases hx
  | (a, y) :: r, ms, hk, h, x, hx => by
    obtain ⟨e, ms', rfl, h1, _, _, h4⟩ := h
    rcases List.mem_cons.1 hx with rfl | hx
    · exact isKey_of (hk (a, y) List.mem_cons_self) h1
    · exact RepEs.keys (fun p hp => hk p (List.mem_cons_of_mem _ hp)) h4 x hx
theorem RepEs.length {M : Mem} : ∀ {es : List (D × V)} {ms : List MapEntry}, RepEs M es ms → ms.length = es.length
  | [], ms, h => by simp only [RepEs] at h; subst h; rfl
  | (a, y) :: r, ms, h => by
    obtain ⟨e, ms', rfl, _, _, _, h4⟩ := h
    simp [RepEs.length h4]
/-- A new map. -/
theorem Inv.alloc_map {E M ι H w} (h : Inv E M ι H w) {l : Nat} (hl : ι l = none) (kc : Nat) : Grow M ι M (ι.set l ⟨.map, some w.heap.size, 0, 0⟩) ∧ Inv E M (ι.set l ⟨.map, some w.heap.size, 0, 0⟩) (H.set l (some (.map ⟨kc, []⟩))) (w.alloc (.map #[] 0)) := by
  have hg : Grow M ι M (ι.set l ⟨.map, some w.heap.size, 0, 0⟩) := Grow.fresh (fun _ _ h => h) hl _
  refine ⟨hg, h.upd (fun k => k = l) (fun k => k = w.heap.size) hg (fun k hk => heap_push_ne w _ hk) (fun k hk => .inl (by omega)) (fun k hk => ⟨Sto.set_other _ _ hk, fun _ _ => Env.set_other _ _ hk⟩) ?_ ?_ ?_ ?_ (by rw [heap_push_size]; omega) rfl rfl rfl⟩
  · rintro k o rfl ho
    rw [Sto.set_same] at ho; injection ho with ho; subst ho
    refine ⟨_, Env.set_same _ _ _, ⟨rfl, w.heap.size, [], 0, rfl, heap_push_new w _, ⟨fun p hp => (by cases hp), rfl⟩, ⟨by simp, fun e he => by cases he⟩⟩, ?_⟩
    rintro b hb
    injection hb with hb; subst hb
    refine ⟨rfl, fun a v hv hab => ?_⟩
    have := cell_lt (h.mem a v hv); omega
  · rintro k k' _ _ _ _ _ rfl rfl _ _ _ _ _ _; rfl
  · intro a v hv hn; rw [hv] at hn; cases hn
  · intro a v hv ht
    have := cell_lt (h.mem a v hv); omega
/-- A map is written. -/
theorem Inv.write_map {E M ι H w} (h : Inv E M ι H w) {l : Nat} {m m' : MapC} {bd : Bind} {b : Nat} (ho : H l = some (.map m)) (hb : ι l = some bd) (hk : bd.blk = some b)
    {ms' : List MapEntry} {ck' : Nat} (hr : RepMap M m' ms') (hbo : BornOk ms' ck') : Inv E M ι (H.set l (some (.map m'))) { w with heap := w.heap.setIfInBounds b (.map ms'.toArray ck') } := by
  obtain ⟨bd', e, htag, b', ms, ck, q1, q2, q3, q4⟩ := h.obj l _ ho
  rw [hb] at e; injection e with e; subst e
  rw [hk] at q1; injection q1 with q1; subst q1
  have hset := heap_set (o' := .map ms'.toArray ck') q2
  refine h.upd (fun k => k = l) (fun k => k = b) (Grow.refl _ _) (fun k hk' => hset.2 k hk') (fun k hk' => .inr ⟨l, _, bd, rfl, ho, hb, by rw [hk, hk']⟩) (fun k hk' => ⟨Sto.set_other _ _ hk', fun _ _ => rfl⟩) ?_ ?_ ?_ ?_ (by simp) rfl rfl rfl
  · rintro k o rfl ho'
    rw [Sto.set_same] at ho'; injection ho' with ho'; subst ho'
    refine ⟨bd, hb, ⟨htag, b, ms', ck', hk, hset.1, hr, hbo⟩, ?_⟩
    rintro b' hb'
    rw [hk] at hb'; injection hb' with hb'; subst hb'
    exact ⟨rfl, fun a v hv hab => h.sep k _ bd _ ho hb hk a v hv hab⟩
  · rintro k k' _ _ _ _ _ rfl rfl _ _ _ _ _ _; rfl
  · intro a v hv hn; rw [hv] at hn; cases hn
  · intro a v hv ht
    exact (h.sep l _ bd b ho hb hk a v hv ht).elim
theorem Inv.map_at {E M ι H w} (h : Inv E M ι H w) {l : Nat} {m : MapC} (ho : H l = some (.map m)) : ∃ bd b ms ck, ι l = some bd ∧ bd.tag = .map ∧ bd.blk = some b ∧ w.heap[b]? = some (.map (List.toArray ms) ck) ∧ RepMap M m ms ∧ BornOk ms ck := by
  obtain ⟨bd, e, htag, b, ms, ck, q1, q2, q3, q4⟩ := h.obj l _ ho
  exact ⟨bd, b, ms, ck, e, htag, q1, q2, q3, q4⟩

/-! ### What is asked -/
inductive MSetW (es : List (D × V)) (k : D) (v : V) (K : List (D × V) → Prop) : Prop
  | mk {es' : List (D × V)} (h : dset es k v = es') (k : K es')
inductive MGetW (es : List (D × V)) (k : D) (z : V) (K : V → Bool → Prop) : Prop
  | mk {u : V} {b : Bool} (hu : (dget es k).getD z = u) (hb : (dget es k).isSome = b) (k : K u b)
inductive MLenW (es : List (D × V)) (K : Int → Prop) : Prop
  | mk {n : Int} (h : (es.length : Int) = n) (k : K n)
section
variable {P : Program} {C : Ctx} {ops : Array Oper} {rest : List Oper} {ρ : List (Nat × V)} {σ : List (Nat × Option O)} {ls : List Nat} {K : List FP → A → Prop}
theorem t_makeMap {d : Nat} {t : TypeId} {ty pos af gd} (kc : Nat) (hg : guardIs ops (look ρ) ⟨some d, .makeMap t none, ty, pos, af, gd⟩ true) (hN : dstOk ⟨some d, .makeMap t none, ty, pos, af, gd⟩ C.N = true) (hl : memB d ls = false)
    (h : Tr P C ops rest ⟨(d, .map d) :: ρ, (d, some (.map ⟨kc, []⟩)) :: σ, d :: ls⟩ (fun fs x' => K (⟨Oper.looksAt ops ⟨some d, .makeMap t none, ty, pos, af, gd⟩, some d, [], [d]⟩ :: fs) x')) : Tr P C ops (⟨some d, .makeMap t none, ty, pos, af, gd⟩ :: rest) ⟨ρ, σ, ls⟩ K := by
  refine tr_op hg hN (vals := []) (fp := []) (wr := [(d, some (.map ⟨kc, []⟩))]) (v := .map d) rfl ?_ (fun _ _ h => by cases h) (fun l hl' _ => by simp at hl'; subst hl'; exact not_mem_of hl) h
  intro E M ι H w a next Q hi hG _ _ hfr hk
  have hfr' : ι d = none := hfr d (by simp) (by simp)
  have hrun : (execOp a.eval ⟨some d, .makeMap t none, ty, pos, af, gd⟩).run P w = .ok (.value (.map (some w.heap.size))) (w.alloc (.map #[] 0)) := by
    simp only [execOp, Option.map_none, Sem.run_bind, run_makeMap, Result.andThen_ok, Sem.run_pure]
  unfold Oper.wp
  rw [hrun, Oper.upon_value]
  obtain ⟨g1, g2⟩ := hi.alloc_map hfr' kc
  refine hk M _ _ _ g1 (fun l hl' => Env.set_other _ _ (by simpa using hl')) (by rw [Sto.upd_one]; exact g2) ?_
  simp only [RepV]
  exact ⟨_, _, Env.set_same _ _ _, rfl, rfl, rfl⟩
theorem t_mapUpdate {t kt et : TypeId} {x y z : Operand} {ty pos af gd} {l : Nat} {m : MapC} {k : D} {u v : V} (hle : VLe u v) (ht : P.underlying t = some (.map kt et)) (hkt : P.underlying kt = some (descOf m.kc)) (hx : opd C.G (look ρ) x = some (.map l)) (hy : opd C.G (look ρ) y = some (.d k)) (hz : opd C.G (look ρ) z = some u)
    (hk : kcOk m.kc k = true) (hv : v.on [] = true) (ho : lookO σ l = some (.map m))
    (hg : guardIs ops (look ρ) ⟨none, .mapUpdate t x y z, ty, pos, af, gd⟩ true)
    (h : Tr P C ops rest ⟨ρ, (l, some (.map ⟨m.kc, dset m.es k v⟩)) :: σ, l :: ls⟩ (fun fs x' => K (⟨Oper.looksAt ops ⟨none, .mapUpdate t x y z, ty, pos, af, gd⟩, none, [l], [l]⟩ :: fs) x')) : Tr P C ops (⟨none, .mapUpdate t x y z, ty, pos, af, gd⟩ :: rest) ⟨ρ, σ, ls⟩ K := by
  refine tr_op hg rfl (vals := [.map l, .d k, u]) (fp := [(l, .map m)]) (wr := [(l, some (.map ⟨m.kc, dset m.es k v⟩))]) (v := .any) ⟨_, _, rfl, hx, _, _, rfl, hy, _, _, rfl, hz, rfl⟩ ?_
    (fun l' o' hm => by simp at hm; obtain ⟨rfl, rfl⟩ := hm; exact ho) (fun l' h1 h2 => by simp at h1 h2; exact absurd h1 h2) h
  intro E M ι H w a next Q hi hG hfp hvs _ hkk
  have hH := hfp l (.map m) (by simp)
  simp only [Op.operands, List.map_cons, List.map_nil, RepVs, RepV] at hvs
  obtain ⟨v1, r1, e1, ⟨bd', b', p1, p2, p3, rfl⟩, v2, r2, e3, e4, v3, r3, e6, e7, _⟩ := hvs
  injection e1 with e1 e5
  rw [e3] at e5; injection e5 with e5 e8
  rw [e6] at e8; injection e8 with e8 _
  obtain ⟨bd, b, ms, ck, q1, q2, q3, q4, q5, q6⟩ := hi.map_at hH
  rw [p1] at q1; injection q1 with q1; subst q1
  rw [p3] at q3; injection q3 with q3; subst q3
  have hv0 : RepV M (fun _ => none) v v3 := RepV.on (S := []) (fun l hl => by simp at hl) v v3 hv (hle _ _ _ e7)
  have hkey := isKey_of hk e4
  have hks : ∀ x ∈ ms.toArray.toList, IsKey (descOf m.kc) x.key := fun x hx => RepEs.keys q5.1 q5.2 x (by simpa using hx)
  rcases find_es hk e4 hv hv0 0 q5.1 q5.2 with ⟨f1, f2, f3⟩ | ⟨j, e, y', f1, f2, f3, f4, f5, f6⟩
  · have hrun : (execOp a.eval ⟨none, .mapUpdate t x y z, ty, pos, af, gd⟩).run P w = .ok .skip { w with heap := w.heap.setIfInBounds b' (.map (ms ++ [MapEntry.mk v2 v3 ck]).toArray (ck + 1)) } := by
      have f1' : Instr.findNow (descOf m.kc) v2 ms.toArray.toList 0 = some none := by simpa using f1
      simp [execOp, e1, e5, e8, Instr.mapUpdate, run_underlying ht, MapKept.run_getObj_map q4, MapKept.run_checkKey hkt hkey, MapKept.run_findKey hkt f1', MapKept.run_setObj_map _ q4, Result.andThen]
    unfold Oper.wp
    rw [hrun, Oper.upon_skip]
    refine hkk M ι _ undef (Grow.refl _ _) (fun _ _ => rfl) ?_ (by simp [RepV])
    rw [Sto.upd_one]
    refine hi.write_map hH p1 p3 (m' := ⟨m.kc, dset m.es k v⟩) (ms' := ms ++ [MapEntry.mk v2 v3 ck]) (ck' := ck + 1) ⟨dset_keys hk q5.1, f3 ck⟩ ⟨?_, fun e he => ?_⟩
    · rw [List.map_append, List.nodup_append]
      refine ⟨q6.1, by simp, fun a ha b hb => ?_⟩
      simp at hb; subst hb
      obtain ⟨e, he, rfl⟩ := List.mem_map.1 ha
      have := q6.2 e he; omega
    · rcases List.mem_append.1 he with he | he
      · have := q6.2 e he; omega
      · simp at he; subst he; simp
  · have hj : (ms.toArray)[j]? = some e := by simpa using f2
    have hrun : (execOp a.eval ⟨none, .mapUpdate t x y z, ty, pos, af, gd⟩).run P w = .ok .skip { w with heap := w.heap.setIfInBounds b' (.map (ms.set j (MapEntry.mk v2 v3 e.born)).toArray ck) } := by
      have f1' : Instr.findNow (descOf m.kc) v2 ms.toArray.toList 0 = some (some (j, e.val)) := by simpa using f1
      have hmod : (ms.toArray.modify j fun e => { e with key := v2, val := v3 }) = (ms.set j (MapEntry.mk v2 v3 e.born)).toArray := by
        apply Array.ext_getElem?
        intro i
        simp only [Array.getElem?_modify, List.getElem?_toArray, List.getElem?_set]
        by_cases hij : j = i
        · subst hij
          have hlt : j < ms.length := (List.getElem?_eq_some_iff.1 f2).1
          have he := (List.getElem?_eq_some_iff.1 f2).2
          simp [hlt, he]
        · simp [hij]
      rw [← hmod]
      simp [execOp, e1, e5, e8, Instr.mapUpdate, run_underlying ht, MapKept.run_getObj_map q4, MapKept.run_checkKey hkt hkey, MapKept.run_findKey hkt f1', hj, f2, f3, MapKept.run_keyThatStays hkey, MapKept.run_setObj_map _ q4, Result.andThen]
    unfold Oper.wp
    rw [hrun, Oper.upon_skip]
    refine hkk M ι _ undef (Grow.refl _ _) (fun _ _ => rfl) ?_ (by simp [RepV])
    rw [Sto.upd_one]
    have hlt : j < ms.length := (List.getElem?_eq_some_iff.1 f2).1
    have hborn : (ms.set j (MapEntry.mk v2 v3 e.born)).map (·.born) = ms.map (·.born) := by
      apply List.ext_getElem?
      intro i
      simp only [List.getElem?_map, List.getElem?_set]
      by_cases hij : j = i
      · subst hij; simp [hlt, f2]; exact congrArg MapEntry.born ((List.getElem?_eq_some_iff.1 f2).2).symm
      · simp [hij]
    refine hi.write_map hH p1 p3 (m' := ⟨m.kc, dset m.es k v⟩) (ms' := ms.set j (MapEntry.mk v2 v3 e.born)) (ck' := ck) ⟨dset_keys hk q5.1, f6⟩ ⟨by rw [hborn]; exact q6.1, fun x hx => ?_⟩
    have : x.born ∈ (ms.set j (MapEntry.mk v2 v3 e.born)).map (·.born) := List.mem_map.2 ⟨x, hx, rfl⟩
    rw [hborn] at this
    obtain ⟨y0, hy0, e0⟩ := List.mem_map.1 this
    rw [← e0]; exact q6.2 y0 hy0
theorem dget_rep {M : Mem} {k : D} : ∀ {es : List (D × V)} {ms : List MapEntry} {y : V}, RepEs M es ms → dget es k = some y → y.on [] = true
  | [], _, _, _, h => by cases h
  | (a, x) :: r, ms, y, h, hd => by
    obtain ⟨e, ms', rfl, h1, h2, h3, h4⟩ := h
    unfold dget at hd
    split at hd
    · injection hd with hd; subst hd; exact h2
    · exact dget_rep h4 hd
theorem t_lookup {dst : Option Nat} {t kt et : TypeId} {x y : Operand} {c : Bool} {ty pos af gd} {l : Nat} {m : MapC} {k : D} {z : V} (ht : P.underlying t = some (.map kt et)) (hkt : P.underlying kt = some (descOf m.kc)) (hz : ZeroV P et z) (hx : opd C.G (look ρ) x = some (.map l)) (hy : opd C.G (look ρ) y = some (.d k))
    (hk : kcOk m.kc k = true) (ho : lookO σ l = some (.map m))
    (hg : guardIs ops (look ρ) ⟨dst, .lookup t x y c, ty, pos, af, gd⟩ true) (hN : dstOk ⟨dst, .lookup t x y c, ty, pos, af, gd⟩ C.N = true)
    (h : Tr P C ops rest ⟨putL ρ dst (if c then .tup [(dget m.es k).getD z, .d (.bool (dget m.es k).isSome)] else (dget m.es k).getD z), σ, ls⟩ (fun fs x' => K (⟨Oper.looksAt ops ⟨dst, .lookup t x y c, ty, pos, af, gd⟩, dst, [l], []⟩ :: fs) x')) : Tr P C ops (⟨dst, .lookup t x y c, ty, pos, af, gd⟩ :: rest) ⟨ρ, σ, ls⟩ K := by
  refine tr_op hg hN (vals := [.map l, .d k]) (fp := [(l, .map m)]) (wr := []) (v := if c then .tup [(dget m.es k).getD z, .d (.bool (dget m.es k).isSome)] else (dget m.es k).getD z) ⟨_, _, rfl, hx, _, _, rfl, hy, rfl⟩ ?_
    (fun l' o' hm => by simp at hm; obtain ⟨rfl, rfl⟩ := hm; exact ho) (fun l' h1 h2 => by simp at h1) h
  intro E M ι H w a next Q hi hG hfp hvs _ hkk
  have hH := hfp l (.map m) (by simp)
  simp only [Op.operands, List.map_cons, List.map_nil, RepVs, RepV] at hvs
  obtain ⟨v1, r1, e1, ⟨bd', b', p1, p2, p3, rfl⟩, v2, r2, e3, e4, _⟩ := hvs
  injection e1 with e1 e5
  rw [e3] at e5; injection e5 with e5 _
  obtain ⟨bd, b, ms, ck, q1, q2, q3, q4, q5, q6⟩ := hi.map_at hH
  rw [p1] at q1; injection q1 with q1; subst q1
  rw [p3] at q3; injection q3 with q3; subst q3
  have hkey := isKey_of hk e4
  obtain ⟨inf, zv, z1, z2, z3⟩ := hz.out
  have up : ∀ {x : V} {v : Value}, x.on [] = true → RepV M (fun _ => none) x v → RepV M ι x v := fun {x v} hon hr => RepV.on (S := []) (fun l hl => by simp at hl) x v hon hr
  have fin : ∀ (u : V) (v : Value) (ok : Bool), u.on [] = true → RepV M (fun _ => none) u v → (execOp a.eval ⟨dst, .lookup t x y c, ty, pos, af, gd⟩).run P w = .ok (.value (if c then .tuple #[v, .bool ok] else v)) w → (dget m.es k).getD z = u → (dget m.es k).isSome = ok → Oper.wp P ⟨dst, .lookup t x y c, ty, pos, af, gd⟩ a w next Q := by
    intro u v ok hon hr hrun hu hok
    unfold Oper.wp
    rw [hrun, Oper.upon_value]
    refine hkk M ι w _ (Grow.refl _ _) (fun _ _ => rfl) hi ?_
    rw [hu, hok]
    cases c with
    | true => simp only [if_true, RepV, RepVs, RepD]; exact ⟨_, rfl, _, _, rfl, up hon hr, _, _, rfl, rfl, rfl⟩
    | false => exact up hon hr
  obtain ⟨x0, hx0⟩ : ∃ x0 : V, x0.on [] = true ∧ ∃ v0, RepV M (fun _ => none) x0 v0 := ⟨.any, rfl, .bool true, by simp [RepV]⟩
  rcases find_es hk e4 hx0.1 hx0.2.choose_spec 0 q5.1 q5.2 with ⟨f1, f2, _⟩ | ⟨j, e, y', f1, f2, f3, f4, f5, _⟩
  · refine fin z zv false hz.on (z3 M) ?_ (by rw [f2]; rfl) (by rw [f2]; rfl)
    have f1' : Instr.findNow (descOf m.kc) v2 ms.toArray.toList 0 = some none := by simpa using f1
    cases c <;> simp [execOp, e1, e5, Instr.lookup, run_underlying ht, MapKept.run_getObj_map q4, MapKept.run_checkKey hkt hkey, MapKept.run_findKey hkt f1', zeroValue, typeInfo, z1, z2, Result.andThen]
  · refine fin y' e.val true (dget_rep q5.2 f4) f5 ?_ (by rw [f4]; rfl) (by rw [f4]; rfl)
    have f1' : Instr.findNow (descOf m.kc) v2 ms.toArray.toList 0 = some (some (j, e.val)) := by simpa using f1
    cases c <;> simp [execOp, e1, e5, Instr.lookup, run_underlying ht, MapKept.run_getObj_map q4, MapKept.run_checkKey hkt hkey, MapKept.run_findKey hkt f1', Result.andThen]
theorem t_lenMap {dst : Option Nat} {t kt et : TypeId} {x : Operand} {ty pos af gd} {l : Nat} {m : MapC} (ht : P.underlying t = some (.map kt et)) (hx : opd C.G (look ρ) x = some (.map l)) (ho : lookO σ l = some (.map m))
    (hg : guardIs ops (look ρ) ⟨dst, .call { callee := .builtin .len, args := #[x], argTypes := #[t] }, ty, pos, af, gd⟩ true) (hN : dstOk ⟨dst, .call { callee := .builtin .len, args := #[x], argTypes := #[t] }, ty, pos, af, gd⟩ C.N = true)
    (h : Tr P C ops rest ⟨putL ρ dst (.d (.int .i64 m.es.length)), σ, ls⟩ (fun fs x' => K (⟨Oper.looksAt ops ⟨dst, .call { callee := .builtin .len, args := #[x], argTypes := #[t] }, ty, pos, af, gd⟩, dst, [l], []⟩ :: fs) x')) : Tr P C ops (⟨dst, .call { callee := .builtin .len, args := #[x], argTypes := #[t] }, ty, pos, af, gd⟩ :: rest) ⟨ρ, σ, ls⟩ K := by
  refine tr_op hg hN (vals := [.map l]) (fp := [(l, .map m)]) (wr := []) (v := .d (.int .i64 m.es.length)) ⟨_, _, rfl, hx, rfl⟩ ?_
    (fun l' o' hm => by simp at hm; obtain ⟨rfl, rfl⟩ := hm; exact ho) (fun l' h1 h2 => by simp at h1) h
  intro E M ι H w a next Q hi hG hfp hvs _ hkk
  have hH := hfp l (.map m) (by simp)
  simp only [Op.operands, Call.operands, List.map_cons, List.map_nil, RepVs, RepV] at hvs
  obtain ⟨v1, r1, e1, ⟨bd', b', p1, p2, p3, rfl⟩, _⟩ := hvs
  injection e1 with e1 _
  obtain ⟨bd, b, ms, ck, q1, q2, q3, q4, q5, q6⟩ := hi.map_at hH
  rw [p1] at q1; injection q1 with q1; subst q1
  rw [p3] at q3; injection q3 with q3; subst q3
  have hrun : (execOp a.eval ⟨dst, .call { callee := .builtin .len, args := #[x], argTypes := #[t] }, ty, pos, af, gd⟩).run P w = .ok (.value (.int .i64 m.es.length)) w := by
    have e1' : a.eval x = .map (some b') := e1
    simp [execOp, resolve, invoke, builtin, Builtin.len_, e1', run_underlying ht, MapKept.run_getObj_map q4, goInt, RepEs.length q5.2]
  unfold Oper.wp
  rw [hrun, Oper.upon_value]
  exact hkk M ι w _ (Grow.refl _ _) (fun _ _ => rfl) hi (by simp only [RepV, RepD])
end
end Go.AM
set_option linter.unusedVariables false
set_option linter.unusedSimpArgs false
namespace Go.AM
open Go Go.RowKit
section
variable {P : Program} {C : Ctx} {ops : Array Oper} {rest : List Oper} {ρ : List (Nat × V)} {σ : List (Nat × Option O)} {ls : List Nat} {K : List FP → A → Prop}
theorem run_eqGuard_fn {op : BinOp} {t : TypeId} {x y : Operand} {f : Fn} {g h : Array Value} (w : World) : (eqGuard op t x y (.func f g h) .nilFunc).run P w = .ok () w := by
  unfold eqGuard; split <;> simp
theorem run_eqGuard_fn0 {op : BinOp} {t : TypeId} {x y : Operand} (w : World) : (eqGuard op t x y .nilFunc .nilFunc).run P w = .ok () w := by
  unfold eqGuard; split <;> simp
theorem run_equal_fn {t : TypeId} (ht : ∃ a b c, P.underlying t = some (.func a b c)) (f : Fn) (g h : Array Value) (w : World) : (Op.equal t (.func f g h) .nilFunc).run P w = .ok false w := by
  obtain ⟨a, b, c, ht⟩ := ht
  unfold Op.equal Op.maxDepth
  rw [show (10000 : Nat) = 9999 + 1 from rfl]
  unfold Op.equalIn
  simp only [Sem.run_bind, run_underlying ht, Result.andThen_ok, Sem.run_pure]
theorem run_equal_fn0 {t : TypeId} (ht : ∃ a b c, P.underlying t = some (.func a b c)) (w : World) : (Op.equal t .nilFunc .nilFunc).run P w = .ok true w := by
  obtain ⟨a, b, c, ht⟩ := ht
  unfold Op.equal Op.maxDepth
  rw [show (10000 : Nat) = 9999 + 1 from rfl]
  unfold Op.equalIn
  simp only [Sem.run_bind, run_underlying ht, Result.andThen_ok, Sem.run_pure]
/-- What a value that is a function or nil is, beside nil. -/
def isNilF : V → Option Bool
  | .clo _ _ => some false
  | .d (.fn _) => some false
  | .d .nilFunc => some true
  | _ => none
theorem isNilF_is {v : V} {b : Bool} (h : isNilF v = some b) {M : Mem} {ι : Env} {x : Value} (hr : RepV M ι v x) : (b = true ∧ x = .nilFunc) ∨ (b = false ∧ ∃ f g h, x = .func f g h) := by
  unfold isNilF at h
  split at h
  · injection h with h; subst h; simp only [RepV] at hr; obtain ⟨vs, e, _⟩ := hr; exact .inr ⟨rfl, _, _, _, e⟩
  · injection h with h; subst h; simp only [RepV, RepD] at hr; exact .inr ⟨rfl, _, _, _, hr⟩
  · injection h with h; subst h; simp only [RepV, RepD] at hr; exact .inl ⟨rfl, hr⟩
  · cases h
theorem t_eqFn {dst : Option Nat} {tx ty' : TypeId} {x y : Operand} {ty pos af gd} {vx : V} {b : Bool} (ht : ∃ a b c, P.underlying tx = some (.func a b c)) (hx : opd C.G (look ρ) x = some vx) (hb : isNilF vx = some b) (hy : opd C.G (look ρ) y = some (.d .nilFunc))
    (hg : guardIs ops (look ρ) ⟨dst, .binOp .eql tx x y ty', ty, pos, af, gd⟩ true) (hN : dstOk ⟨dst, .binOp .eql tx x y ty', ty, pos, af, gd⟩ C.N = true)
    (h : Tr P C ops rest ⟨putL ρ dst (.d (.bool b)), σ, ls⟩ (fun fs x' => K (⟨Oper.looksAt ops ⟨dst, .binOp .eql tx x y ty', ty, pos, af, gd⟩, dst, [], []⟩ :: fs) x')) : Tr P C ops (⟨dst, .binOp .eql tx x y ty', ty, pos, af, gd⟩ :: rest) ⟨ρ, σ, ls⟩ K := by
  refine tr_two (x := x) (y := y) rfl hx hy hg hN (fun M ι a w _ h1 h2 => ?_) h
  simp only [RepV, RepD] at h2
  refine ⟨.bool b, ?_, by simp only [RepV, RepD]⟩
  rcases isNilF_is hb h1 with ⟨rfl, e⟩ | ⟨rfl, f, g, k, e⟩
  · simp only [execOp, e, h2, Sem.run_bind, run_eqGuard_fn0, Result.andThen_ok, binOp, run_equal_fn0 ht, Sem.run_pure]
  · simp only [execOp, e, h2, Sem.run_bind, run_eqGuard_fn, Result.andThen_ok, binOp, run_equal_fn ht, Sem.run_pure]
theorem t_neFn {dst : Option Nat} {tx ty' : TypeId} {x y : Operand} {ty pos af gd} {vx : V} {b : Bool} (ht : ∃ a b c, P.underlying tx = some (.func a b c)) (hx : opd C.G (look ρ) x = some vx) (hb : isNilF vx = some b) (hy : opd C.G (look ρ) y = some (.d .nilFunc))
    (hg : guardIs ops (look ρ) ⟨dst, .binOp .neq tx x y ty', ty, pos, af, gd⟩ true) (hN : dstOk ⟨dst, .binOp .neq tx x y ty', ty, pos, af, gd⟩ C.N = true)
    (h : Tr P C ops rest ⟨putL ρ dst (.d (.bool (!b))), σ, ls⟩ (fun fs x' => K (⟨Oper.looksAt ops ⟨dst, .binOp .neq tx x y ty', ty, pos, af, gd⟩, dst, [], []⟩ :: fs) x')) : Tr P C ops (⟨dst, .binOp .neq tx x y ty', ty, pos, af, gd⟩ :: rest) ⟨ρ, σ, ls⟩ K := by
  refine tr_two (x := x) (y := y) rfl hx hy hg hN (fun M ι a w _ h1 h2 => ?_) h
  simp only [RepV, RepD] at h2
  refine ⟨.bool (!b), ?_, by simp only [RepV, RepD]⟩
  rcases isNilF_is hb h1 with ⟨rfl, e⟩ | ⟨rfl, f, g, k, e⟩
  · simp only [execOp, e, h2, Sem.run_bind, run_eqGuard_fn0, Result.andThen_ok, binOp, run_equal_fn0 ht, Sem.run_pure, Bool.not_true]
  · simp only [execOp, e, h2, Sem.run_bind, run_eqGuard_fn, Result.andThen_ok, binOp, run_equal_fn ht, Sem.run_pure, Bool.not_false]
end
end Go.AM

/-
  Rows of the call's own that are written: an object holds what the row holds.
  The operations on rows that are written: append, index, load, store, length.
-/
import Derived.Test.YtdbgmmeenljnoaaGreatDoorAmJ
import Derived.Maps.RangeRun
set_option linter.unusedVariables false
set_option linter.unusedSimpArgs false
namespace Go.AM
open Go Go.RowKit

theorem RepVs.d_env {M : Mem} {ι ι' : Env} : ∀ {ds : List D} {vs : List Value}, RepVs M ι (ds.map V.d) vs → RepVs M ι' (ds.map V.d) vs
  | [], vs, h => by simpa only [List.map_nil, RepVs] using h
  | d :: ds, vs, h => by
    simp only [List.map_cons, RepVs, RepV] at h ⊢
    obtain ⟨v, r, e, h1, h2⟩ := h
    exact ⟨v, r, e, h1, RepVs.d_env h2⟩
theorem RepVs.d_one {M : Mem} {ι : Env} : ∀ {ds : List D} {vs : List Value}, RepVs M ι (ds.map V.d) vs → ∀ x ∈ vs, x.oneCell' = true
  | [], vs, h, x, hx => by simp only [List.map_nil, RepVs] at h; subst h; cases hx
  | d :: ds, vs, h, x, hx => by
    simp only [List.map_cons, RepVs, RepV] at h
    obtain ⟨v, r, rfl, h1, h2⟩ := h
    rcases List.mem_cons.1 hx with rfl | hx
    · exact h1.one
    · exact RepVs.d_one h2 x hx
theorem cell_at {w : World} {b off : Nat} {cs : Array Value} {t : TypeId} {fr : Nat × Nat} (h : w.heap[b]? = some (.cells cs t fr)) : w.cell? ⟨b, off, none⟩ = cs[off]? := by
  unfold World.cell?
  rw [h]
  simp
theorem addr_add (b off j : Nat) : (⟨b, off, none⟩ : Addr).add j = ⟨b, off + j, none⟩ := by
  simp only [Addr.add]; split
  · rename_i e; simp [e]
  · rfl

/-- A row that is written lies in a block, and its label is bound to it. -/
theorem Inv.arr_set {E M ι H w} (h : Inv E M ι H w) {l b cap : Nat} {es : List (List D)} {sz : Nat} {t : TypeId} {vs rest : List Value} {w' : World}
    (hg : Grow M ι M (ι.set l ⟨.row, some b, cap, es.length⟩)) (hM : ∀ a v, M a = some v → a.block ≠ b) (hb : w.heap.size ≤ b ∨ ∃ o bd, H l = some o ∧ ι l = some bd ∧ bd.blk = some b)
    (hsz : ∀ e ∈ es, e.length = sz) (hcap : es.length ≤ cap) (hmax : es.length ≤ maxLen)
    (hw : w'.heap[b]? = some (.cells (vs ++ rest).toArray t (0, 0))) (h1 : vs.length = es.length * sz) (h2 : (vs ++ rest).length = cap * sz) (hr : RepVs M (fun _ => none) (es.flatten.map V.d) vs)
    (hne : ∀ k, k ≠ b → w'.heap[k]? = w.heap[k]?) (hz : w.heap.size ≤ w'.heap.size) (e1 : w'.os = w.os) (e2 : w'.tape = w.tape) (e3 : w'.output = w.output) :
    Inv E M (ι.set l ⟨.row, some b, cap, es.length⟩) (H.set l (some (.arr es sz t))) w' := by
  refine h.upd (fun k => k = l) (fun k => k = b) hg (fun k hk => hne k hk) (fun k hk => ?_) (fun k hk => ⟨Sto.set_other _ _ hk, fun _ _ => Env.set_other _ _ hk⟩) ?_ ?_ ?_ ?_ hz e1 e2 e3
  · subst hk
    rcases hb with hb | ⟨o, bd, q1, q2, q3⟩
    · exact .inl hb
    · exact .inr ⟨l, o, bd, rfl, q1, q2, q3⟩
  · rintro k o rfl ho
    rw [Sto.set_same] at ho; injection ho with ho; subst ho
    refine ⟨_, Env.set_same _ _ _, ⟨rfl, rfl, hcap, hmax, hsz, (fun e => by cases e), fun b' hb' => ?_⟩, fun b' hb' => ?_⟩
    · injection hb' with hb'; subst hb'
      exact ⟨vs, rest, hw, h1, h2, hr⟩
    · injection hb' with hb'; subst hb'
      exact ⟨rfl, fun a v hv hab => absurd hab (hM a v hv)⟩
  · rintro k k' _ _ _ _ _ rfl rfl _ _ _ _ _ _; rfl
  · intro a v hv hn; rw [hv] at hn; cases hn
  · intro a v hv ht
    exact absurd ht (hM a v hv)
/-- A label for an empty slice: whatever is appended goes elsewhere. -/
theorem Inv.arr_nil {E M ι H w} (h : Inv E M ι H w) {l : Nat} (hl : ι l = none) (sz : Nat) (t : TypeId) :
    Grow M ι M (ι.set l ⟨.row, none, 0, 0⟩) ∧ Inv E M (ι.set l ⟨.row, none, 0, 0⟩) (H.set l (some (.arr [] sz t))) w := by
  have hg : Grow M ι M (ι.set l ⟨.row, none, 0, 0⟩) := Grow.fresh (fun _ _ h => h) hl _
  refine ⟨hg, h.upd (fun k => k = l) (fun _ => False) hg (fun _ _ => rfl) (fun _ h => h.elim) (fun k hk => ⟨Sto.set_other _ _ hk, fun _ _ => Env.set_other _ _ hk⟩) ?_ ?_ (fun a v hv hn => by rw [hv] at hn; cases hn) (fun _ _ _ h => h.elim) (Nat.le_refl _) rfl rfl rfl⟩
  · rintro k o rfl ho
    rw [Sto.set_same] at ho; injection ho with ho; subst ho
    exact ⟨_, Env.set_same _ _ _, ⟨rfl, rfl, Nat.le_refl _, Nat.zero_le _, (by simp), fun _ => rfl, fun b hb => by cases hb⟩, fun b hb => by cases hb⟩
  · rintro k k' _ _ _ _ _ rfl rfl _ _ _ _ _ _; rfl
/-- What was written never turns again. -/
theorem Inv.freeze {E M ι H w} (h : Inv E M ι H w) {l : Nat} {es : List (List D)} {sz : Nat} {t : TypeId} (ho : H l = some (.arr es sz t)) :
    ∃ M', (∀ a v, M a = some v → M' a = some v) ∧ Inv E M' ι (H.set l (some (.row es.length sz t))) w ∧ ∀ v, RepV M ι (.arr es.length l) v → RepV M' ι (.own es l) v := by
  obtain ⟨bd, hb, q1, q2, q3, q4, q5, q6, q7⟩ := h.obj l _ ho
  cases hk : bd.blk with
  | none =>
    have hes := q6 hk
    subst hes
    refine ⟨M, fun _ _ h => h, h.upd (fun k => k = l) (fun _ => False) (Grow.refl _ _) (fun _ _ => rfl) (fun _ h => h.elim) (fun k hk => ⟨Sto.set_other _ _ hk, fun _ _ => rfl⟩) ?_ ?_ (fun a v hv hn => by rw [hv] at hn; cases hn) (fun _ _ _ h => h.elim) (Nat.le_refl _) rfl rfl rfl, fun v hv => ?_⟩
    · rintro k o rfl ho'
      rw [Sto.set_same] at ho'; injection ho' with ho'; subst ho'
      exact ⟨bd, hb, ⟨q1, q2, q3, fun b hb => by rw [hk] at hb; cases hb⟩, fun b hb => by rw [hk] at hb; cases hb⟩
    · rintro k k' _ _ _ _ _ rfl rfl _ _ _ _ _ _; rfl
    · simp only [RepV] at hv ⊢
      obtain ⟨_, bd', h1, h2, h3, h4⟩ := hv
      rw [hb] at h1; injection h1 with h1; subst h1
      have h5 := h4 q2
      rw [hk] at h5
      subst h5
      exact ⟨RepD.nil_slice, bd, hb, q1, by rw [q2]; exact Nat.le_refl _, fun _ => by rw [hk]; exact ⟨none, rfl⟩⟩
  | some b =>
    obtain ⟨vs, rest, w1, w2, w3, w4⟩ := q7 b hk
    have hM : ∀ a v, M a = some v → a.block ≠ b := fun a v hv hab => (h.sep l _ bd b ho hb hk a v hv hab).elim
    have hm : ∀ a v, M a = some v → M.add b 0 vs a = some v := fun a v hv => by
      simp only [Mem.add]; rw [if_neg (fun hc => hM a v hv hc.1)]; exact hv
    have hg : Grow M ι (M.add b 0 vs) ι := ⟨hm, fun l bd hl => ⟨bd, hl, .inl rfl⟩⟩
    have hin : ∀ a v, M.add b 0 vs a = some v → a.block = b → a.off < es.length * sz ∧ a.spot = none ∧ vs[a.off]? = some v := fun a v hv hab => by
      cases hma : M a with
      | some u => exact absurd hab (hM a u hma)
      | none =>
        obtain ⟨_, e2, _, e4, e5⟩ := Mem.add_new hv hma
        exact ⟨by omega, e2, by simpa using e5⟩
    refine ⟨M.add b 0 vs, hm, h.upd (fun k => k = l) (fun k => k = b) hg (fun _ _ => rfl) (fun k hk' => .inr ⟨l, _, bd, rfl, ho, hb, by rw [hk, hk']⟩) (fun k hk => ⟨Sto.set_other _ _ hk, fun _ _ => rfl⟩) ?_ ?_ (fun a v hv hn => (Mem.add_new hv hn).1) ?_ (Nat.le_refl _) rfl rfl rfl, fun v hv => ?_⟩
    · rintro k o rfl ho'
      rw [Sto.set_same] at ho'; injection ho' with ho'; subst ho'
      refine ⟨bd, hb, ⟨q1, q2, q3, fun b' hb' => ?_⟩, fun b' hb' => ?_⟩
      · rw [hk] at hb'; injection hb' with hb'; subst hb'
        exact ⟨_, w1, by simpa using w3⟩
      · rw [hk] at hb'; injection hb' with hb'; subst hb'
        exact ⟨rfl, fun a v hv hab => (hin a v hv hab).1⟩
    · rintro k k' _ _ _ _ _ rfl rfl _ _ _ _ _ _; rfl
    · intro a v hv ht
      obtain ⟨e1, e2, e3⟩ := hin a v hv ht
      have : a = ⟨b, a.off, none⟩ := by obtain ⟨x, y, z⟩ := a; simp only at ht e2; subst ht; subst e2; rfl
      rw [this, cell_at w1, List.getElem?_toArray, List.getElem?_append_left (by omega)]
      exact e3
    · simp only [RepV] at hv ⊢
      obtain ⟨_, bd', h1, h2, h3, h4⟩ := hv
      rw [hb] at h1; injection h1 with h1; subst h1
      have h5 := h4 q2
      rw [hk] at h5
      simp only at h5
      subst h5
      refine ⟨RepD.slice_of (ι := fun _ => none) (sz := sz) (vs := vs) rfl q3 q4 q5 rfl (RepVs.grow ⟨hm, fun l bd hl => (by cases hl)⟩ _ _ w4) (fun j v hj => mem_add_hit hj), bd, hb, q1, by rw [q2]; exact Nat.le_refl _, fun _ => by rw [hk]⟩

/-! ### A state's row, frozen -/
mutual
def frV (l : Nat) (es : List (List D)) : V → V
  | .arr n k => match Nat.beq k l with
    | true => .own es l
    | false => .arr n k
  | .agg cs => .agg (frVs l es cs)
  | .tup cs => .tup (frVs l es cs)
  | .clo f cs => .clo f (frVs l es cs)
  | v => v
def frVs (l : Nat) (es : List (List D)) : List V → List V
  | [] => []
  | v :: r => frV l es v :: frVs l es r
end
mutual
/-- The lengths under which a row is held. -/
def frN (l : Nat) : V → List Nat
  | .arr n k => match Nat.beq k l with
    | true => [n]
    | false => []
  | .agg cs => frNs l cs
  | .tup cs => frNs l cs
  | .clo _ cs => frNs l cs
  | _ => []
def frNs (l : Nat) : List V → List Nat
  | [] => []
  | v :: r => frN l v ++ frNs l r
end
mutual
theorem frV_rep {M M' : Mem} {ι : Env} {l : Nat} {es : List (List D)} (hm : ∀ a v, M a = some v → M' a = some v) (hk : ∀ v, RepV M ι (.arr es.length l) v → RepV M' ι (.own es l) v) :
    ∀ (x : V) (v : Value), (∀ n ∈ frN l x, n = es.length) → RepV M ι x v → RepV M' ι (frV l es x) v
  | .arr n k, v, hn, h => by
    unfold frV
    unfold frN at hn
    cases hb : Nat.beq k l with
    | true =>
      rw [hb] at hn
      simp only
      have e1 := hn n (by simp)
      have e2 := Nat.eq_of_beq_eq_true hb
      subst e1; subst e2
      exact hk v h
    | false => exact RepV.grow ⟨hm, fun l bd hl => ⟨bd, hl, .inl rfl⟩⟩ _ _ h
  | .agg cs, v, hn, h => by
    unfold frV
    simp only [RepV] at h ⊢
    obtain ⟨vs, h1, h2, h3⟩ := h
    exact ⟨vs, h1, frVs_rep hm hk cs vs (by unfold frN at hn; exact hn) h2, h3⟩
  | .tup cs, v, hn, h => by
    unfold frV
    simp only [RepV] at h ⊢
    obtain ⟨vs, h1, h2⟩ := h
    exact ⟨vs, h1, frVs_rep hm hk cs vs (by unfold frN at hn; exact hn) h2⟩
  | .clo f cs, v, hn, h => by
    unfold frV
    simp only [RepV] at h ⊢
    obtain ⟨vs, h1, h2⟩ := h
    exact ⟨vs, h1, frVs_rep hm hk cs vs (by unfold frN at hn; exact hn) h2⟩
  | .any, v, _, h => by unfold frV; exact RepV.grow ⟨hm, fun l bd hl => ⟨bd, hl, .inl rfl⟩⟩ _ _ h
  | .d _, v, _, h => by unfold frV; exact RepV.grow ⟨hm, fun l bd hl => ⟨bd, hl, .inl rfl⟩⟩ _ _ h
  | .full _, v, _, h => by unfold frV; exact RepV.grow ⟨hm, fun l bd hl => ⟨bd, hl, .inl rfl⟩⟩ _ _ h
  | .ptr _ _, v, _, h => by unfold frV; exact RepV.grow ⟨hm, fun l bd hl => ⟨bd, hl, .inl rfl⟩⟩ _ _ h
  | .cptr _, v, _, h => by unfold frV; exact RepV.grow ⟨hm, fun l bd hl => ⟨bd, hl, .inl rfl⟩⟩ _ _ h
  | .own _ _, v, _, h => by unfold frV; exact RepV.grow ⟨hm, fun l bd hl => ⟨bd, hl, .inl rfl⟩⟩ _ _ h
  | .map _, v, _, h => by unfold frV; exact RepV.grow ⟨hm, fun l bd hl => ⟨bd, hl, .inl rfl⟩⟩ _ _ h
  | .aptr _ _ _ _ _, v, _, h => by unfold frV; exact RepV.grow ⟨hm, fun l bd hl => ⟨bd, hl, .inl rfl⟩⟩ _ _ h
  | .val _, v, _, h => by unfold frV; exact RepV.grow ⟨hm, fun l bd hl => ⟨bd, hl, .inl rfl⟩⟩ _ _ h
theorem frVs_rep {M M' : Mem} {ι : Env} {l : Nat} {es : List (List D)} (hm : ∀ a v, M a = some v → M' a = some v) (hk : ∀ v, RepV M ι (.arr es.length l) v → RepV M' ι (.own es l) v) :
    ∀ (xs : List V) (vs : List Value), (∀ n ∈ frNs l xs, n = es.length) → RepVs M ι xs vs → RepVs M' ι (frVs l es xs) vs
  | [], vs, _, h => by simpa only [frVs, RepVs] using h
  | x :: xs, vs, hn, h => by
    simp only [frVs, RepVs] at h ⊢
    obtain ⟨v, r, h1, h2, h3⟩ := h
    unfold frNs at hn
    exact ⟨v, r, h1, frV_rep hm hk x v (fun n hx => hn n (List.mem_append_left _ hx)) h2, frVs_rep hm hk xs r (fun n hx => hn n (List.mem_append_right _ hx)) h3⟩
end
def frO (l : Nat) (es : List (List D)) : O → O
  | .cells vs t => .cells (frVs l es vs) t
  | o => o
def frON (l : Nat) : O → List Nat
  | .cells vs _ => frNs l vs
  | _ => []
def frR (l : Nat) (es : List (List D)) : List (Nat × V) → List (Nat × V)
  | [] => []
  | (t, v) :: r => (t, frV l es v) :: frR l es r
def frRN (l : Nat) : List (Nat × V) → List Nat
  | [] => []
  | (_, v) :: r => frN l v ++ frRN l r
def frS (l : Nat) (es : List (List D)) : List (Nat × Option O) → List (Nat × Option O)
  | [] => []
  | (k, some o) :: r => (k, some (frO l es o)) :: frS l es r
  | (k, none) :: r => (k, none) :: frS l es r
def frSN (l : Nat) : List (Nat × Option O) → List Nat
  | [] => []
  | (_, some o) :: r => frON l o ++ frSN l r
  | (_, none) :: r => frSN l r
theorem frR_look {l : Nat} {es : List (List D)} : ∀ {ρ : List (Nat × V)} {t : Nat} {v : V}, look (frR l es ρ) t = some v → ∃ u, look ρ t = some u ∧ v = frV l es u ∧ ∀ n ∈ frN l u, n ∈ frRN l ρ
  | [], t, v, h => by cases h
  | (k, u) :: r, t, v, h => by
    simp only [frR, look_cons] at h ⊢
    split at h
    · rename_i e
      injection h with h
      exact ⟨u, by rw [if_pos e], h.symm, fun n hn => by unfold frRN; exact List.mem_append_left _ hn⟩
    · rename_i e
      obtain ⟨u', h1, h2, h3⟩ := frR_look h
      exact ⟨u', by rw [if_neg e]; exact h1, h2, fun n hn => by unfold frRN; exact List.mem_append_right _ (h3 n hn)⟩
theorem frS_look {l : Nat} {es : List (List D)} : ∀ {σ : List (Nat × Option O)} {k : Nat} {o : O}, lookO (frS l es σ) k = some o → ∃ u, lookO σ k = some u ∧ o = frO l es u ∧ ∀ n ∈ frON l u, n ∈ frSN l σ
  | [], k, o, h => by cases h
  | (m, some x) :: r, k, o, h => by
    simp only [frS, lookO, look_cons] at h ⊢
    by_cases e : m = k
    · rw [if_pos e] at h ⊢
      simp only [Option.some.injEq] at h
      exact ⟨x, rfl, h.symm, fun n hn => by unfold frSN; exact List.mem_append_left _ hn⟩
    · rw [if_neg e] at h ⊢
      obtain ⟨u', h1, h2, h3⟩ := frS_look (σ := r) h
      exact ⟨u', h1, h2, fun n hn => by unfold frSN; exact List.mem_append_right _ (h3 n hn)⟩
  | (m, none) :: r, k, o, h => by
    simp only [frS, lookO, look_cons] at h ⊢
    by_cases e : m = k
    · rw [if_pos e] at h; cases h
    · rw [if_neg e] at h ⊢
      obtain ⟨u', h1, h2, h3⟩ := frS_look (σ := r) h
      exact ⟨u', h1, h2, fun n hn => by unfold frSN; exact h3 n hn⟩
theorem frO_rep {M M' : Mem} {ι : Env} {w : World} {bd : Bind} {l : Nat} {es : List (List D)} (hm : ∀ a v, M a = some v → M' a = some v) (hk : ∀ v, RepV M ι (.arr es.length l) v → RepV M' ι (.own es l) v) {o : O} (hn : ∀ n ∈ frON l o, n = es.length) (h : ORep M' ι w bd o) (h0 : ORep M ι w bd o) : ORep M' ι w bd (frO l es o) := by
  cases o with
  | cells vs t =>
    obtain ⟨q0, b, cs, q1, q2, q3, q4⟩ := h0
    exact ⟨q0, b, cs, q1, q2, frVs_rep hm hk vs cs hn q3, q4⟩
  | row n sz t => exact h
  | map es => exact h
  | arr es sz t => exact h
  | raw q tg ob => exact h
def frA (l : Nat) (es : List (List D)) (sz : Nat) (t : TypeId) (J : A) : A := ⟨frR l es J.ρ, (l, some (.row es.length sz t)) :: frS l es J.σ, J.ls⟩
def frAN (l : Nat) (J : A) : List Nat := frRN l J.ρ ++ frSN l J.σ
theorem weak_freeze {C : Ctx} {J : A} (l k : Nat) {es : List (List D)} {sz : Nat} {t : TypeId} (ho : lookO J.σ l = some (.arr es sz t)) (hk : frAN l J = List.replicate k es.length) : Weak C J (frA l es sz t J) := by
  intro M ι a w hs
  obtain ⟨M', hm, hi, hv⟩ := hs.inv.freeze ho
  have hall : ∀ n ∈ frRN l J.ρ ++ frSN l J.σ, n = es.length := fun n hn => by
    have : n ∈ List.replicate k es.length := by rw [← hk]; exact hn
    exact List.eq_of_mem_replicate this
  refine ⟨M', ι, ⟨?_, hs.g.grow hm, fun t' v hv' => ?_, hs.lab, hs.sz, hs.df, hs.kept⟩⟩
  · have hH : ∀ k o, lookO ((l, some (.row es.length sz t)) :: frS l es J.σ) k = some o → (k = l ∧ o = .row es.length sz t) ∨ (k ≠ l ∧ lookO (frS l es J.σ) k = some o) := fun k o h => by
      simp only [lookO, look_cons] at h
      by_cases e : l = k
      · rw [if_pos e] at h; simp only [Option.some.injEq] at h; exact .inl ⟨e.symm, h.symm⟩
      · rw [if_neg e] at h; exact .inr ⟨fun x => e x.symm, h⟩
    -- object by object
    have hold : ∀ k o, lookO ((l, some (.row es.length sz t)) :: frS l es J.σ) k = some o → ∃ u, Sto.set (lookO J.σ) l (some (.row es.length sz t)) k = some u ∧ (∀ bd, ORep M' ι w bd u → ι k = some bd → ORep M' ι w bd o) ∧ (∀ n, u.holds n → o.holds n) := fun k o h => by
      rcases hH k o h with ⟨rfl, rfl⟩ | ⟨hne, h⟩
      · exact ⟨_, Sto.set_same _ _ _, fun _ h _ => h, fun _ h => h⟩
      · obtain ⟨u, h1, rfl, h3⟩ := frS_look h
        refine ⟨u, by rw [Sto.set_other _ _ hne]; exact h1, fun bd hr hbd => ?_, fun n hn => by cases u <;> exact hn⟩
        obtain ⟨bd', e1, e2⟩ := hs.inv.obj k u h1
        rw [hbd] at e1; injection e1 with e1; subst e1
        exact frO_rep hm hv (fun n hn => hall n (List.mem_append_right _ (h3 n hn))) hr e2
    refine ⟨hi.mem, fun k o ho' => ?_, fun k k' o o' bd bd' b ho' ho2 hb hb' hk hk' => ?_, fun k o bd b ho' hb hk a v hv hab => ?_, fun k o bd b ho' hb hk => ?_, hi.le, hi.new, hi.size, hi.os, hi.tape, hi.output, hi.frame⟩
    · obtain ⟨u, h1, h2, _⟩ := hold k o ho'
      obtain ⟨bd, e1, e2⟩ := hi.obj k u h1
      exact ⟨bd, e1, h2 bd e2 e1⟩
    · obtain ⟨u, h1, _⟩ := hold k o ho'
      obtain ⟨u', h1', _⟩ := hold k' o' ho2
      exact hi.inj k k' u u' bd bd' b h1 h1' hb hb' hk hk'
    · obtain ⟨u, h1, _, h3⟩ := hold k o ho'
      exact h3 _ (hi.sep k u bd b h1 hb hk a v hv hab)
    · obtain ⟨u, h1, _⟩ := hold k o ho'
      exact hi.own k u bd b h1 hb hk
  · obtain ⟨u, h1, rfl, h3⟩ := frR_look hv'
    exact frV_rep hm hv u _ (fun n hn => hall n (List.mem_append_left _ (h3 n hn))) (hs.tm t' u h1)
end Go.AM
set_option linter.unusedVariables false
set_option linter.unusedSimpArgs false
namespace Go.AM
open Go Go.RowKit

theorem grow_core {P : Program} {w : World} {t ty e n b : Nat} (ht : Sli P t e n b) {ne ny c : Nat} {a : Option Addr} {vs us : List Value} {y : Value} (hsrc : Src P n t (.slice a ne c) ne vs w) (hsrc2 : Src P n t y ny us w) (hvs : vs.length = ne * n) (hus : us.length = ny * n)
    (hg : c < ne + ny) (hb : (ne + ny) * b ≤ 140737488355328) (hb0 : 0 < b) :
    ∃ (rest : List Value) (cap : Nat), (Builtin.append_ #[t, t] ty #[.slice a ne c, y]).run P w = .ok (.slice (some ⟨w.heap.size, 0, none⟩) (ne + ny) cap) (w.drew.alloc (.cells ((vs ++ us) ++ rest).toArray e)) ∧ ((vs ++ us) ++ rest).length = cap * n ∧ ne + ny ≤ cap ∧ ne + ny ≤ maxLen := by
  obtain ⟨i, z, i1, i2, i3, i4, i5⟩ := ht.info
  subst i2
  subst i3
  have hlen : ne + ny ≤ 140737488355328 := Nat.le_trans (Nat.le_mul_of_pos_right _ hb0) hb
  have hrun := run_append_grow_src w t t ty e i z ht.und i1 i4 a ne c vs hsrc.cellsD y ny us hsrc2 hg (by omega) (growslice_fits hg hb)
  refine ⟨(Builtin.zeroCells z.cells (grownCap w (ne + ny) c e - (ne + ny))).toList, grownCap w (ne + ny) c e, ?_, ?_, grownCap_ge _ _ _ _, by simp only [maxLen]; omega⟩
  · rw [hrun]
    congr 3
    apply Array.ext'
    simp
  · have hge := grownCap_ge w (ne + ny) c e
    have hz : (Builtin.zeroCells z.cells (grownCap w (ne + ny) c e - (ne + ny))).toList.length = (grownCap w (ne + ny) c e - (ne + ny)) * i.size :=
      (Array.length_toList (xs := Builtin.zeroCells z.cells _)).trans ((size_zeroCells _ _).trans (by rw [i5]))
    rw [List.length_append, List.length_append, hvs, hus, hz]
    rw [← Nat.add_mul, ← Nat.add_mul]
    congr 1
    omega
theorem flat_app {M : Mem} {ι : Env} {es ys : List (List D)} {vs us : List Value} (h : RepVs M ι (es.flatten.map V.d) vs) (k : RepVs M ι (ys.flatten.map V.d) us) : RepVs M ι ((es ++ ys).flatten.map V.d) (vs ++ us) := by
  rw [List.flatten_append, List.map_append]; exact h.append k
section
variable {P : Program} {C : Ctx} {ops : Array Oper} {rest : List Oper} {ρ : List (Nat × V)} {σ : List (Nat × Option O)} {ls : List Nat} {K : List FP → A → Prop}

theorem arr_repV {M : Mem} {ι : Env} {l b cap n : Nat} (hb : ι l = some ⟨.row, some b, cap, n⟩) : RepV M ι (.arr n l) (.slice (some ⟨b, 0, none⟩) n cap) := by
  simp only [RepV]
  exact ⟨⟨_, _, _, rfl⟩, _, hb, rfl, Nat.le_refl _, fun _ => rfl⟩

/-- append to nil: a row that may be written. -/
theorem t_append_arr0 {d : Nat} {c : Call} {t : TypeId} {x y : Operand} {ty pos af gd} {vy : V} {ys : List (List D)} {e n b : Nat} (hc : c = { callee := .builtin .append, args := #[x, y], argTypes := #[t, t] }) (ht : Sli P t e n b) (hx : opd C.G (look ρ) x = some (.d .nils)) (hy : opd C.G (look ρ) y = some vy) (hys : IsSlice vy ys)
    (hyl : ∀ x ∈ ys, x.length = n) (hb : ys.length * b ≤ 140737488355328) (hb0 : Nat.blt 0 b = true)
    (hg : guardIs ops (look ρ) ⟨some d, .call c, ty, pos, af, gd⟩ true) (hN : dstOk ⟨some d, .call c, ty, pos, af, gd⟩ C.N = true) (hl : memB d ls = false)
    (h : Tr P C ops rest ⟨(d, .arr ys.length d) :: ρ, (d, some (.arr ys n e)) :: σ, d :: ls⟩ (fun fs x' => K (⟨Oper.looksAt ops ⟨some d, .call c, ty, pos, af, gd⟩, some d, [], [d]⟩ :: fs) x')) : Tr P C ops (⟨some d, .call c, ty, pos, af, gd⟩ :: rest) ⟨ρ, σ, ls⟩ K := by
  subst hc
  have hb0' : 0 < b := by simpa [Nat.blt_eq] using hb0
  refine tr_op hg hN (vals := [.d .nils, vy]) (fp := []) (wr := [(d, some (.arr ys n e))]) (v := .arr ys.length d) ⟨_, _, rfl, hx, _, _, rfl, hy, rfl⟩ ?_ (fun _ _ h => by cases h) (fun l hl' _ => by simp at hl'; subst hl'; exact not_mem_of hl) h
  intro E M ι H w a next Q hi hG _ hvs hfr hk
  have hfr' : ι d = none := hfr d (by simp) (by simp)
  simp only [Op.operands, Call.operands, List.map_cons, List.map_nil, RepVs] at hvs
  obtain ⟨v1, r1, e1, e2, v2, r2, e3, e4, _⟩ := hvs
  injection e1 with e1 e5
  rw [e3] at e5; injection e5 with e5 _
  have hev1 : a.eval x = v1 := e1
  have hev2 : a.eval y = v2 := e5
  simp only [RepV, RepD] at e2
  subst e2
  have hd2 := hys.rep e4
  obtain ⟨i, z, i1, i2, i3, i4, i5⟩ := ht.info
  obtain ⟨a2, c2, us, q1, q2, q3, q4, q5, q6, q7, q8, q9⟩ := slice_cells (P := P) (ι := ι) (n := n) ht.und hd2 hyl
  by_cases h0 : ys = []
  · subst h0
    have hsrc := q9 w (fun a x h => hi.mem a x h)
    rw [← i2] at hsrc
    have hrun := exec_append (dst := some d) (pos := pos) (af := af) (gd := gd) (a := a) (x := x) (y := y) (ty := ty) (by rw [hev1, hev2]; exact run_append_zero (ty := ty) ht.und i1 (Nat.le_refl _) hsrc)
    unfold Oper.wp
    rw [hrun, Oper.upon_value]
    obtain ⟨g1, g2⟩ := hi.arr_nil hfr' n e
    refine hk M _ w _ g1 (fun l hl' => Env.set_other _ _ (by simpa using hl')) (by rw [Sto.upd_one]; exact g2) ?_
    simp only [RepV]
    exact ⟨⟨_, _, _, rfl⟩, _, Env.set_same _ _ _, rfl, Nat.le_refl _, fun _ => trivial⟩
  · have hpos : 0 < ys.length := List.length_pos_iff.2 h0
    have hsrc := q9 w (fun a x h => hi.mem a x h)
    obtain ⟨rst, cap, hrun, k1, k2, k3⟩ := grow_core (ty := ty) (w := w) ht (a := none) (ne := 0) (c := 0) (vs := []) (Src.ofNil w ht.und 0) hsrc (by simp) q6 (by omega) (by rw [Nat.zero_add]; exact hb) hb0'
    have hrun' := exec_append (dst := some d) (pos := pos) (af := af) (gd := gd) (a := a) (x := x) (y := y) (ty := ty) (by rw [hev1, hev2]; exact hrun)
    unfold Oper.wp
    rw [hrun', Oper.upon_value]
    have hi2 : Inv E M ι H w.drew := hi.of_heap rfl rfl rfl rfl
    simp only [Nat.zero_add, List.nil_append] at k1 k2 k3 hk ⊢
    have g1 : Grow M ι M (ι.set d ⟨.row, some w.drew.heap.size, cap, ys.length⟩) := Grow.fresh (fun _ _ h => h) hfr' _
    have g2 := hi2.arr_set (t := e) g1 (fun a v hv => by have := cell_lt (hi2.mem a v hv); omega) (.inl (Nat.le_refl _)) hyl k2 k3 (heap_push_new w.drew _) q6 k1 (RepVs.d_env q4) (fun k hk => heap_push_ne w.drew _ hk) (by rw [heap_push_size]; omega) rfl rfl rfl
    refine hk M _ _ _ g1 (fun l hl' => Env.set_other _ _ (by simpa using hl')) (by rw [Sto.upd_one]; exact g2) (arr_repV (Env.set_same _ _ _))

/-- append to a row that may be written. -/
theorem t_append_arr {d : Nat} {c : Call} {t : TypeId} {x y : Operand} {ty pos af gd} {l m : Nat} {vy : V} {es ys zs : List (List D)} {e n b : Nat} (hc : c = { callee := .builtin .append, args := #[x, y], argTypes := #[t, t] }) (ht : Sli P t e n b) (hx : opd C.G (look ρ) x = some (.arr m l)) (hm : m = es.length) (hy : opd C.G (look ρ) y = some vy) (hys : IsSlice vy ys)
    (ho : lookO σ l = some (.arr es n e)) (hyl : ∀ x ∈ ys, x.length = n) (hb : (es.length + ys.length) * b ≤ 140737488355328) (hb0 : Nat.blt 0 b = true) (hz : es ++ ys = zs)
    (hg : guardIs ops (look ρ) ⟨some d, .call c, ty, pos, af, gd⟩ true) (hN : dstOk ⟨some d, .call c, ty, pos, af, gd⟩ C.N = true)
    (h : Tr P C ops rest ⟨(d, .arr zs.length l) :: ρ, (l, some (.arr zs n e)) :: σ, l :: ls⟩ (fun fs x' => K (⟨Oper.looksAt ops ⟨some d, .call c, ty, pos, af, gd⟩, some d, [l], [l]⟩ :: fs) x')) : Tr P C ops (⟨some d, .call c, ty, pos, af, gd⟩ :: rest) ⟨ρ, σ, ls⟩ K := by
  subst hc
  subst hz
  subst hm
  have hb0' : 0 < b := by simpa [Nat.blt_eq] using hb0
  refine tr_op hg hN (vals := [.arr es.length l, vy]) (fp := [(l, .arr es n e)]) (wr := [(l, some (.arr (es ++ ys) n e))]) (v := .arr (es ++ ys).length l) ⟨_, _, rfl, hx, _, _, rfl, hy, rfl⟩ ?_
    (fun l' o' hm => by simp at hm; obtain ⟨rfl, rfl⟩ := hm; exact ho) (fun l' h1 h2 => by simp at h1 h2; exact absurd h1 h2) h
  intro E M ι H w a next Q hi hG hfp hvs _ hk
  have hH := hfp l (.arr es n e) (by simp)
  simp only [Op.operands, Call.operands, List.map_cons, List.map_nil, RepVs] at hvs
  obtain ⟨v1, r1, e1, e2, v2, r2, e3, e4, _⟩ := hvs
  injection e1 with e1 e5
  rw [e3] at e5; injection e5 with e5 _
  have hev1 : a.eval x = v1 := e1
  have hev2 : a.eval y = v2 := e5
  have hown := e2
  simp only [RepV] at e2
  obtain ⟨_, bd, b1, b2, b3, b4⟩ := e2
  obtain ⟨bd', o1, o2, o3, o4, o5, o6, o7, o8⟩ := hi.obj l _ hH
  rw [b1] at o1; injection o1 with o1; subst o1
  have hmt := b4 o3
  have hd2 := hys.rep e4
  obtain ⟨i, z, i1, i2, i3, i4, i5⟩ := ht.info
  obtain ⟨a2, c2, us, q1, q2, q3, q4, q5, q6, q7, q8, q9⟩ := slice_cells (P := P) (ι := ι) (n := n) ht.und hd2 hyl
  have hsrc2 := q9 w (fun a x h => hi.mem a x h)
  by_cases h0 : ys = []
  · subst h0
    rw [← i2] at hsrc2
    obtain ⟨ax, cx, hax, hcx⟩ : ∃ ax cx, v1 = .slice ax es.length cx ∧ es.length ≤ cx := by
      cases hbk : bd.blk with
      | none => rw [hbk] at hmt; have := o7 hbk; subst this; exact ⟨_, _, hmt, Nat.le_refl _⟩
      | some b => rw [hbk] at hmt; exact ⟨_, _, hmt, o4⟩
    have hrun := exec_append (dst := some d) (pos := pos) (af := af) (gd := gd) (a := a) (x := x) (y := y) (ty := ty) (by rw [hev1, hev2, hax]; exact run_append_zero (ty := ty) ht.und i1 hcx hsrc2)
    unfold Oper.wp
    rw [hrun, Oper.upon_value]
    simp only [List.append_nil] at hk ⊢
    have hH' : H.upd [(l, some (.arr es n e))] = H := funext fun k => by
      rw [Sto.upd_one]; simp only [Sto.set]; split
      · rename_i e; subst e; exact hH.symm
      · rfl
    exact hk M ι w _ (Grow.refl _ _) (fun _ _ => rfl) (by rw [hH']; exact hi) (by rw [← hax]; exact hown)
  · have hpos : 0 < ys.length := List.length_pos_iff.2 h0
    have hgrow : ∀ b' cap', Grow M ι M (ι.set l ⟨.row, some b', cap', (es ++ ys).length⟩) := fun b' cap' => ⟨fun _ _ h => h, fun i bi hi => by
      by_cases e : i = l
      · subst e; rw [b1] at hi; injection hi with hi; subst hi
        exact ⟨_, Env.set_same _ _ _, .inr ⟨o2, rfl, by simp only [List.length_append]; omega⟩⟩
      · exact ⟨bi, by rw [Env.set_other _ _ e]; exact hi, .inl rfl⟩⟩
    have hel : ∀ x ∈ es ++ ys, x.length = n := fun x hx => (List.mem_append.1 hx).elim (o6 x) (hyl x)
    have fresh : ∀ (ax : Option Addr) (cx : Nat) (vs : List Value), v1 = .slice ax es.length cx → Src P n t (.slice ax es.length cx) es.length vs w → vs.length = es.length * n → RepVs M (fun _ => none) (es.flatten.map V.d) vs → cx < es.length + ys.length → (Oper.mk (some d) (.call { callee := .builtin .append, args := #[x, y], argTypes := #[t, t] }) ty pos af gd).wp P a w next Q := by
      intro ax cx vs hax hs1 hvl hvr hno
      obtain ⟨rst, cap, hrun, k1, k2, k3⟩ := grow_core (ty := ty) (w := w) ht hs1 hsrc2 hvl q6 hno hb hb0'
      have hrun' := exec_append (dst := some d) (pos := pos) (af := af) (gd := gd) (a := a) (x := x) (y := y) (ty := ty) (by rw [hev1, hev2, hax]; exact hrun)
      unfold Oper.wp
      rw [hrun', Oper.upon_value]
      have hi2 : Inv E M ι H w.drew := hi.of_heap rfl rfl rfl rfl
      rw [← List.length_append] at k2 k3 ⊢
      have g2 := hi2.arr_set (t := e) (hgrow w.drew.heap.size cap) (fun a v hv => by have := cell_lt (hi2.mem a v hv); omega) (.inl (Nat.le_refl _)) hel k2 k3 (heap_push_new w.drew _) (by rw [List.length_append, List.length_append, hvl, q6, Nat.add_mul]) k1 (flat_app hvr (RepVs.d_env q4)) (fun k hk => heap_push_ne w.drew _ hk) (by rw [heap_push_size]; omega) rfl rfl rfl
      exact hk M _ _ _ (hgrow _ _) (fun l hl' => Env.set_other _ _ (by simpa using hl')) (by rw [Sto.upd_one]; exact g2) (arr_repV (Env.set_same _ _ _))
    cases hbk : bd.blk with
    | none =>
      rw [hbk] at hmt
      have := o7 hbk
      subst this
      exact fresh none 0 [] hmt (Src.ofNil w ht.und 0) (by simp) (by simp [RepVs]) (by simp; omega)
    | some blk =>
      rw [hbk] at hmt
      simp only at hmt
      obtain ⟨vs, rst, w1, w2, w3, w4⟩ := o8 blk hbk
      have hM : ∀ a v, M a = some v → a.block ≠ blk := fun a v hv hab => (hi.sep l _ bd blk hH b1 hbk a v hv hab).elim
      have hcell : ∀ j u, vs[j]? = some u → w.cell? ((⟨blk, 0, none⟩ : Addr).add j) = some u := fun j u hu => by
        rw [addr_add, cell_at w1, List.getElem?_toArray, List.getElem?_append_left (by have := (List.getElem?_eq_some_iff.1 hu).1; omega), Nat.zero_add]; exact hu
      by_cases hroom : es.length + ys.length ≤ bd.cap
      · obtain ⟨ad2, rfl⟩ := q8 h0
        have hmul : (es.length + ys.length) * n = es.length * n + ys.length * n := Nat.add_mul ..
        have hcap : (es.length + ys.length) * n ≤ bd.cap * n := Nat.mul_le_mul_right _ hroom
        have hrun0 := run_append_room (P := P) w t ty e i ht.und i1 blk es.length bd.cap (vs ++ rst).toArray w1 ad2 ys.length c2 us (by rw [i2]; exact q6) (fun j x hj => hi.mem _ _ ((q7 ad2 rfl h0).2 j x hj)) q5 hroom (by rw [i2, q6, List.size_toArray, w3]; omega)
        rw [i2] at hrun0
        have hrun := exec_append (dst := some d) (pos := pos) (af := af) (gd := gd) (a := a) (x := x) (y := y) (ty := ty) (by rw [hev1, hev2, hmt, q1]; exact hrun0)
        unfold Oper.wp
        rw [hrun, Oper.upon_value]
        have hcont : ((vs ++ rst).toArray.toList.take (es.length * n) ++ us ++ (vs ++ rst).toArray.toList.drop (es.length * n + us.length)) = (vs ++ us) ++ rst.drop us.length := by
          simp only []
          rw [← w2, List.take_left, ← List.drop_drop, List.drop_left]
        rw [hcont]
        rw [← List.length_append] at hroom ⊢
        have g2 := hi.arr_set (t := e) (hgrow blk bd.cap) hM (.inr ⟨_, bd, hH, b1, hbk⟩) hel hroom (by
            have hle : es.length + ys.length ≤ 140737488355328 := Nat.le_trans (Nat.le_mul_of_pos_right _ hb0') hb
            rw [List.length_append]; simp only [maxLen]; omega) (setRow_heap w blk _ _ _ _ w1) (by rw [List.length_append, List.length_append, w2, q6, Nat.add_mul]) (by
            rw [← hcont, ← w3]; simp only [List.length_append, List.length_take, List.length_drop] at w3 ⊢; omega) (flat_app w4 (RepVs.d_env q4)) (fun k hk' => setRow_other w blk k _ hk') (by simp) rfl rfl rfl
        exact hk M _ _ _ (hgrow _ _) (fun l hl' => Env.set_other _ _ (by simpa using hl')) (by rw [Sto.upd_one]; exact g2) (arr_repV (Env.set_same _ _ _))
      · exact fresh _ _ vs hmt (Src.ofSlice w ht.und ⟨blk, 0, none⟩ es.length bd.cap vs w2 hcell (RepVs.d_one w4)) w2 w4 (by omega)
theorem t_buildSlice_arr {d : Nat} {t len : Nat} {parts : Array (Nat × Operand)} {ty pos af gd} {vals : List V} {es : List (List D)} {e n b : Nat} (ht : Sli P t e n b) (hx : Opds C.G (look ρ) (parts.toList.map (·.2)) vals) (he : Elems vals es) (hn : ∀ x ∈ es, x.length = n)
    (hp : parts.toList.map (·.1) = List.range' 0 len) (hlim : Nat.ble (len * n) 16777216 = true)
    (hg : guardIs ops (look ρ) ⟨some d, .buildSlice t len parts, ty, pos, af, gd⟩ true) (hN : dstOk ⟨some d, .buildSlice t len parts, ty, pos, af, gd⟩ C.N = true) (hl : memB d ls = false)
    (h : Tr P C ops rest ⟨(d, .arr es.length d) :: ρ, (d, some (.arr es n e)) :: σ, d :: ls⟩ (fun fs x' => K (⟨Oper.looksAt ops ⟨some d, .buildSlice t len parts, ty, pos, af, gd⟩, some d, [], [d]⟩ :: fs) x')) : Tr P C ops (⟨some d, .buildSlice t len parts, ty, pos, af, gd⟩ :: rest) ⟨ρ, σ, ls⟩ K := by
  refine tr_op hg hN (vals := vals) (fp := []) (wr := [(d, some (.arr es n e))]) (v := .arr es.length d) (by simpa [Op.operands] using hx) ?_ (fun _ _ h => by cases h) (fun l hl' _ => by simp at hl'; subst hl'; exact not_mem_of hl) h
  intro E M ι H w a next Q hi hG _ hvs hfr hk
  have hfr' : ι d = none := hfr d (by simp) (by simp)
  have hvs' : RepVs M ι vals ((parts.toList.map (·.2)).map a.eval) := by simpa [Op.operands] using hvs
  obtain ⟨k1, k2, k3, k4⟩ := Elems.rep he hn hvs'
  generalize hus : (parts.toList.map (·.2)).map a.eval = us at *
  have hlen : us.length = len := by
    have := congrArg List.length hp
    simp at this
    rw [← hus]; simp [this]
  obtain ⟨inf, z, i1, i2, i3, i4, _⟩ := ht.info
  have hlim' := Nat.le_of_ble_eq_true hlim
  have hpart : (parts.map fun x => match x with | (i, x) => (i, a.eval x)).toList = (us.zipIdx 0).map (fun p => (p.2, p.1)) := by
    have hgen : ∀ (l : List (Nat × Operand)) (k : Nat), l.map (·.1) = List.range' k l.length → (l.map fun x => match x with | (i, x) => (i, a.eval x)) = (((l.map (·.2)).map a.eval).zipIdx k).map (fun p => (p.2, p.1)) := by
      intro l
      induction l with
      | nil => intro k _; rfl
      | cons p l ih =>
        intro k hk'
        simp only [List.map_cons, List.length_cons, List.range'_succ, List.cons.injEq] at hk'
        simp only [List.map_cons, List.zipIdx_cons, List.cons.injEq]
        exact ⟨by rw [← hk'.1], ih (k + 1) hk'.2⟩
    have hpl : parts.toList.length = len := by have := congrArg List.length hp; simpa using this
    rw [Array.toList_map, ← hus]
    exact hgen parts.toList 0 (by rw [hpl]; exact hp)
  have hinit : ∀ (c0 : Array Value), c0.size = len * n → ∃ cs' : Array Value, Instr.fill (fun i => some (i * n, n)) c0 (parts.map fun x => match x with | (i, x) => (i, a.eval x)).toList = some cs' ∧ cs'.toList = (us.map fun v => v.cells.toList).flatten := by
    intro c0 h0
    obtain ⟨cs', f1, f2⟩ := fill_all n us 0 c0 k3 (by rw [h0, hlen]; simp)
    exact ⟨cs', by rw [hpart]; exact f1, by simpa using f2⟩
  have hrun : ∃ cs' : Array Value, (execOp a.eval ⟨some d, .buildSlice t len parts, ty, pos, af, gd⟩).run P w = .ok (.value (.slice (some ⟨w.heap.size, 0, none⟩) len len)) (w.alloc (.cells cs' e)) ∧ cs'.toList = (us.map fun v => v.cells.toList).flatten := by
    have hcond : ¬ (len * n > 2 ^ 24) := by simpa using hlim'
    by_cases h0 : len * n = 0
    · obtain ⟨cs', f1, f2⟩ := hinit #[] (by simp [h0])
      refine ⟨cs', ?_, f2⟩
      have h24 : ¬ (0 > 2 ^ 24) := by omega
      simp only [execOp, Instr.buildSlice, run_underlying ht.und, sizeOf, typeInfo, Sem.run_bind, run_program, Result.andThen_ok, i1, i2, Sem.run_pure, h0, h24, if_true, if_false]
      rw [show (Array.map (fun x => (#[] : Array Value)[x % (#[] : Array Value).size]!) (Array.range 0)) = #[] by simp, f1]
      simp only [newRow, Sem.run_bind, run_newObj, Result.andThen_ok, Sem.run_pure]
      rfl
    · obtain ⟨cs', f1, f2⟩ := hinit ((Array.range (len * n)).map (z.cells[· % z.cells.size]!)) (by simp)
      refine ⟨cs', ?_, f2⟩
      simp only [execOp, Instr.buildSlice, run_underlying ht.und, sizeOf, typeInfo, zeroValue, Sem.run_bind, run_program, Result.andThen_ok, i1, i2, i4, Sem.run_pure, hcond, if_false, h0]
      rw [f1]
      simp only [newRow, Sem.run_bind, run_newObj, Result.andThen_ok, Sem.run_pure]
      rfl
  obtain ⟨cs', hrun, hcs⟩ := hrun
  unfold Oper.wp
  rw [hrun, Oper.upon_value]
  have hle : es.length = len := by rw [← k1, hlen]
  have hnp := ht.pos
  have hlm : len ≤ maxLen := by
    have : len ≤ len * n := Nat.le_mul_of_pos_right _ hnp
    simp only [maxLen]; omega
  have hcs' : cs' = ((us.map fun (v : Value) => v.cells.toList).flatten ++ []).toArray := by rw [List.append_nil, ← hcs, Array.toArray_toList]
  have hflen : (us.map fun (v : Value) => v.cells.toList).flatten.length = es.length * n := by
    have := k2.length
    rw [List.length_map, flat_len hn] at this
    exact this
  have g1 : Grow M ι M (ι.set d ⟨.row, some w.heap.size, len, es.length⟩) := Grow.fresh (fun _ _ h => h) hfr' _
  have g2 := hi.arr_set (w' := w.alloc (.cells cs' e)) (vs := (us.map fun (v : Value) => v.cells.toList).flatten) (rest := []) (t := e) g1 (fun a v hv => by have := cell_lt (hi.mem a v hv); omega) (.inl (Nat.le_refl _)) hn (by omega) (by omega) (by rw [heap_push_new, hcs']) hflen (by rw [List.append_nil, hflen, hle]) (RepVs.d_env k2) (fun k hk => heap_push_ne w _ hk) (by rw [heap_push_size]; omega) rfl rfl rfl
  refine hk M _ _ _ g1 (fun l hl' => Env.set_other _ _ (by simpa using hl')) (by rw [Sto.upd_one]; exact g2) ?_
  have := arr_repV (M := M) (ι := ι.set d ⟨.row, some w.heap.size, len, es.length⟩) (l := d) (b := w.heap.size) (cap := len) (n := es.length) (Env.set_same _ _ _)
  rwa [hle] at this ⊢

/-! ### Reading and writing -/
theorem flat_drop {α : Type} {sz : Nat} : ∀ {es : List (List α)} {i : Nat} {el : List α}, (∀ e ∈ es, e.length = sz) → es[i]? = some el → (es.flatten.drop (i * sz)).take sz = el
  | [], i, el, _, h => by simp at h
  | x :: es, 0, el, hs, h => by
    simp only [List.getElem?_cons_zero, Option.some.injEq] at h
    subst h
    rw [Nat.zero_mul, List.drop_zero, List.flatten_cons, ← hs x List.mem_cons_self, List.take_left]
  | x :: es, i + 1, el, hs, h => by
    simp only [List.getElem?_cons_succ] at h
    have hx := hs x List.mem_cons_self
    rw [List.flatten_cons, Nat.succ_mul, Nat.add_comm, ← List.drop_drop]
    have : (x ++ es.flatten).drop sz = es.flatten := by rw [← hx, List.drop_left]
    rw [this]
    exact flat_drop (fun e he => hs e (List.mem_cons_of_mem _ he)) h
theorem flat_set {α : Type} {sz : Nat} : ∀ {es : List (List α)} {i off : Nat} {el us : List α}, (∀ e ∈ es, e.length = sz) → es[i]? = some el → off + us.length ≤ sz → (es.set i (spl el off us)).flatten = spl es.flatten (i * sz + off) us
  | [], i, off, el, us, _, h, _ => by simp at h
  | x :: es, 0, off, el, us, hs, h, hf => by
    simp only [List.getElem?_cons_zero, Option.some.injEq] at h
    subst h
    have hx := hs x List.mem_cons_self
    simp only [List.set_cons_zero, List.flatten_cons, spl, Nat.zero_mul, Nat.zero_add]
    rw [List.take_append_of_le_length (by omega), List.drop_append_of_le_length (by omega)]
    simp
  | x :: es, i + 1, off, el, us, hs, h, hf => by
    simp only [List.getElem?_cons_succ] at h
    have hx := hs x List.mem_cons_self
    have ih := flat_set (fun e he => hs e (List.mem_cons_of_mem _ he)) h hf
    rw [List.set_cons_succ, List.flatten_cons, List.flatten_cons, ih]
    have e1 : (i + 1) * sz + off = x.length + (i * sz + off) := by rw [hx, Nat.succ_mul]; omega
    simp only [spl]
    rw [e1, List.take_length_add_append, Nat.add_assoc x.length, List.drop_length_add_append]
    simp
theorem spl_len {α : Type} {xs us : List α} {k : Nat} (h : k + us.length ≤ xs.length) : (spl xs k us).length = xs.length := by
  simp only [spl, List.length_append, List.length_take, List.length_drop]; omega
theorem spl_app {α : Type} {xs ys us : List α} {k : Nat} (h : k + us.length ≤ xs.length) : spl (xs ++ ys) k us = spl xs k us ++ ys := by
  simp only [spl]
  rw [List.take_append_of_le_length (by omega), List.drop_append_of_le_length (by omega)]
  simp
theorem spl_map {α β : Type} (f : α → β) (xs us : List α) (k : Nat) : (spl xs k us).map f = spl (xs.map f) k (us.map f) := by
  simp [spl, List.map_take, List.map_drop]
theorem mul_fit {i n sz off k : Nat} (h : i < n) (hf : off + k ≤ sz) : i * sz + off + k ≤ n * sz := by
  have : (i + 1) * sz ≤ n * sz := Nat.mul_le_mul_right _ h
  rw [Nat.succ_mul] at this
  omega
/-- What an element's address shows. -/
theorem Inv.arr_at {E M ι H w} (h : Inv E M ι H w) {l n sz i off : Nat} {es : List (List D)} {t : TypeId} {v : Value} {el : List D} (ho : H l = some (.arr es sz t)) (hv : RepV M ι (.aptr n l sz i off) v) (hn : n = es.length) (hi : es[i]? = some el) :
    ∃ bd b vs rest, ι l = some bd ∧ bd.tag = .row ∧ bd.n = es.length ∧ bd.blk = some b ∧ v = .pointer (some ⟨b, i * sz + off, none⟩) ∧ w.heap[b]? = some (.cells (vs ++ rest).toArray t (0, 0)) ∧ vs.length = es.length * sz ∧ (vs ++ rest).length = bd.cap * sz ∧ es.length ≤ bd.cap ∧ es.length ≤ maxLen ∧ (∀ e ∈ es, e.length = sz) ∧
      RepVs M (fun _ => none) (es.flatten.map V.d) vs ∧ RepVs M (fun _ => none) (el.map V.d) ((vs.drop (i * sz)).take sz) ∧ i < es.length := by
  subst hn
  simp only [RepV] at hv
  obtain ⟨_, bd, b1, b2, b3, b4⟩ := hv
  obtain ⟨bd', o1, o2, o3, o4, o5, o6, o7, o8⟩ := h.obj l _ ho
  rw [b1] at o1; injection o1 with o1; subst o1
  obtain ⟨b, h1, h2⟩ := b4 o3
  obtain ⟨vs, rst, w1, w2, w3, w4⟩ := o8 b h1
  refine ⟨bd, b, vs, rst, b1, b2, o3, h1, h2, w1, w2, w3, o4, o5, o6, w4, ?_, (List.getElem?_eq_some_iff.1 hi).1⟩
  have := (w4.drop (i * sz)).take sz
  rw [← List.map_drop, ← List.map_take, flat_drop o6 hi] at this
  exact this
theorem t_len_arr {dst : Option Nat} {c : Call} {x : Operand} {t : TypeId} {ty pos af gd} {l m : Nat} {es : List (List D)} {e n b n' : Nat} {t' : TypeId} (hc : c = { callee := .builtin .len, args := #[x], argTypes := #[t] }) (ht : Sli P t e n b) (hx : opd C.G (look ρ) x = some (.arr m l)) (hm : m = es.length) (ho : lookO σ l = some (.arr es n' t'))
    (hg : guardIs ops (look ρ) ⟨dst, .call c, ty, pos, af, gd⟩ true) (hN : dstOk ⟨dst, .call c, ty, pos, af, gd⟩ C.N = true)
    (h : Tr P C ops rest ⟨putL ρ dst (.d (.int .i64 es.length)), σ, ls⟩ (fun fs x' => K (⟨Oper.looksAt ops ⟨dst, .call c, ty, pos, af, gd⟩, dst, [l], []⟩ :: fs) x')) : Tr P C ops (⟨dst, .call c, ty, pos, af, gd⟩ :: rest) ⟨ρ, σ, ls⟩ K := by
  subst hc
  subst hm
  refine tr_op hg hN (vals := [.arr es.length l]) (fp := [(l, .arr es n' t')]) (wr := []) (v := .d (.int .i64 es.length)) ⟨_, _, rfl, hx, rfl⟩ ?_ (fun l' o' hm => by simp at hm; obtain ⟨rfl, rfl⟩ := hm; exact ho) (fun _ h => by cases h) h
  intro E M ι H w a next Q hi hG hfp hvs _ hk
  have hH := hfp l (.arr es n' t') (by simp)
  simp only [Op.operands, Call.operands, List.map_cons, List.map_nil, RepVs] at hvs
  obtain ⟨v1, r1, e1, e2, _⟩ := hvs
  injection e1 with e1 _
  have hev1 : a.eval x = v1 := e1
  simp only [RepV] at e2
  obtain ⟨_, bd, b1, b2, b3, b4⟩ := e2
  obtain ⟨bd', o1, o2, o3, o4, o5, o6, o7, o8⟩ := hi.obj l _ hH
  rw [b1] at o1; injection o1 with o1; subst o1
  have hmt := b4 o3
  obtain ⟨ax, cx, hax⟩ : ∃ ax cx, v1 = .slice ax es.length cx := by
    cases hbk : bd.blk with
    | none => rw [hbk] at hmt; have := o7 hbk; subst this; exact ⟨_, _, hmt⟩
    | some b => rw [hbk] at hmt; exact ⟨_, _, hmt⟩
  have hrun : (execOp a.eval ⟨dst, .call { callee := .builtin .len, args := #[x], argTypes := #[t] }, ty, pos, af, gd⟩).run P w = .ok (.value (.int .i64 es.length)) w := by
    simp [execOp, resolve, invoke, builtin, Builtin.len_, hev1, hax, run_underlying ht.und, goInt]
  unfold Oper.wp
  rw [hrun, Oper.upon_value]
  exact hk M ι w _ (Grow.refl _ _) (fun _ _ => rfl) hi (by simp [RepV, RepD])
theorem t_index_arr {dst : Option Nat} {t : TypeId} {x y : Operand} {ty pos af gd} {l m : Nat} {es : List (List D)} {e n b : Nat} {t' : TypeId} {k : IntKind} {i : Int} (ht : Sli P t e n b) (hx : opd C.G (look ρ) x = some (.arr m l)) (hm : m = es.length) (ho : lookO σ l = some (.arr es n t')) (hy : opd C.G (look ρ) y = some (.d (.int k i)))
    (h0 : 0 ≤ i) (hi : i.toNat < es.length)
    (hg : guardIs ops (look ρ) ⟨dst, .indexAddr t x y, ty, pos, af, gd⟩ true) (hN : dstOk ⟨dst, .indexAddr t x y, ty, pos, af, gd⟩ C.N = true)
    (h : Tr P C ops rest ⟨putL ρ dst (.aptr m l n i.toNat 0), σ, ls⟩ (fun fs x' => K (⟨Oper.looksAt ops ⟨dst, .indexAddr t x y, ty, pos, af, gd⟩, dst, [l], []⟩ :: fs) x')) : Tr P C ops (⟨dst, .indexAddr t x y, ty, pos, af, gd⟩ :: rest) ⟨ρ, σ, ls⟩ K := by
  subst hm
  refine tr_op hg hN (vals := [.arr es.length l, .d (.int k i)]) (fp := [(l, .arr es n t')]) (wr := []) (v := .aptr es.length l n i.toNat 0) ⟨_, _, rfl, hx, _, _, rfl, hy, rfl⟩ ?_ (fun l' o' hm => by simp at hm; obtain ⟨rfl, rfl⟩ := hm; exact ho) (fun _ h => by cases h) h
  intro E M ι H w a next Q hinv hG hfp hvs _ hk
  have hH := hfp l (.arr es n t') (by simp)
  simp only [Op.operands, List.map_cons, List.map_nil, RepVs] at hvs
  obtain ⟨v1, r1, e1, e2, v2, r2, e3, e4, _⟩ := hvs
  injection e1 with e1 e5
  rw [e3] at e5; injection e5 with e5 _
  have hev1 : a.eval x = v1 := e1
  have hev2 : a.eval y = v2 := e5
  simp only [RepV, RepD] at e4
  simp only [RepV] at e2
  obtain ⟨_, bd, b1, b2, b3, b4⟩ := e2
  obtain ⟨bd', o1, o2, o3, o4, o5, o6, o7, o8⟩ := hinv.obj l _ hH
  rw [b1] at o1; injection o1 with o1; subst o1
  have hmt := b4 o3
  obtain ⟨inf, z, i1, i2, _⟩ := ht.info
  cases hbk : bd.blk with
  | none => have := o7 hbk; subst this; simp at hi
  | some blk =>
    rw [hbk] at hmt
    simp only at hmt
    have hin : (0 ≤ i ∧ i < (es.length : Int)) := ⟨h0, by omega⟩
    have hrun : (execOp a.eval ⟨dst, .indexAddr t x y, ty, pos, af, gd⟩).run P w = .ok (.value (.pointer (some ⟨blk, i.toNat * n + 0, none⟩))) w := by
      have e6 : ((⟨blk, 0, none⟩ : Addr).add (i.toNat * n)) = ⟨blk, i.toNat * n + 0, none⟩ := by rw [addr_add]; simp
      rw [← e6]
      simp [execOp, Instr.indexAt, asIntOf, hev1, hev2, e4, hmt, run_underlying ht.und, hin, sizeOf, typeInfo, i1, i2]
    unfold Oper.wp
    rw [hrun, Oper.upon_value]
    refine hk M ι w _ (Grow.refl _ _) (fun _ _ => rfl) hinv ?_
    simp only [RepV]
    exact ⟨⟨_, rfl⟩, bd, b1, b2, b3, fun _ => ⟨blk, hbk, rfl⟩⟩
theorem t_nilCheck_a {dst : Option Nat} {x : Operand} {ty pos af gd} {n l sz i off : Nat} {es : List (List D)} {t' : TypeId} (hx : opd C.G (look ρ) x = some (.aptr n l sz i off)) (hn : n = es.length) (ho : lookO σ l = some (.arr es sz t'))
    (hg : guardIs ops (look ρ) ⟨dst, .nilCheck x, ty, pos, af, gd⟩ true) (hN : dstOk ⟨dst, .nilCheck x, ty, pos, af, gd⟩ C.N = true)
    (h : Tr P C ops rest ⟨putL ρ dst (.aptr n l sz i off), σ, ls⟩ (fun fs x' => K (⟨Oper.looksAt ops ⟨dst, .nilCheck x, ty, pos, af, gd⟩, dst, [l], []⟩ :: fs) x')) : Tr P C ops (⟨dst, .nilCheck x, ty, pos, af, gd⟩ :: rest) ⟨ρ, σ, ls⟩ K := by
  subst hn
  refine tr_op hg hN (vals := [.aptr es.length l sz i off]) (fp := [(l, .arr es sz t')]) (wr := []) (v := .aptr es.length l sz i off) ⟨_, _, rfl, hx, rfl⟩ ?_ (fun l' o' hm => by simp at hm; obtain ⟨rfl, rfl⟩ := hm; exact ho) (fun _ h => by cases h) h
  intro E M ι H w a next Q hinv hG hfp hvs _ hk
  have hH := hfp l (.arr es sz t') (by simp)
  simp only [Op.operands, List.map_cons, List.map_nil, RepVs] at hvs
  obtain ⟨v1, r1, e1, e2, _⟩ := hvs
  injection e1 with e1 _
  have e2' := e2
  simp only [RepV] at e2
  obtain ⟨_, bd, b1, b2, b3, b4⟩ := e2
  obtain ⟨bd', o1, o2, o3, _⟩ := hinv.obj l _ hH
  rw [b1] at o1; injection o1 with o1; subst o1
  obtain ⟨blk, _, hv⟩ := b4 o3
  have hrun : (execOp a.eval ⟨dst, .nilCheck x, ty, pos, af, gd⟩).run P w = .ok (.value v1) w := by simp [execOp, e1, hv]
  unfold Oper.wp
  rw [hrun, Oper.upon_value]
  exact hk M ι w _ (Grow.refl _ _) (fun _ _ => rfl) hinv e2'
theorem t_fieldAddr_a {dst : Option Nat} {s : TypeId} {x : Operand} {m : Nat} {ty pos af gd} {n l sz i off fo : Nat} {es : List (List D)} {t' : TypeId} (hf : Fld P s m fo) (hx : opd C.G (look ρ) x = some (.aptr n l sz i off)) (hn : n = es.length) (ho : lookO σ l = some (.arr es sz t'))
    (hg : guardIs ops (look ρ) ⟨dst, .fieldAddr s x m, ty, pos, af, gd⟩ true) (hN : dstOk ⟨dst, .fieldAddr s x m, ty, pos, af, gd⟩ C.N = true)
    (h : Tr P C ops rest ⟨putL ρ dst (.aptr n l sz i (off + fo)), σ, ls⟩ (fun fs x' => K (⟨Oper.looksAt ops ⟨dst, .fieldAddr s x m, ty, pos, af, gd⟩, dst, [l], []⟩ :: fs) x')) : Tr P C ops (⟨dst, .fieldAddr s x m, ty, pos, af, gd⟩ :: rest) ⟨ρ, σ, ls⟩ K := by
  subst hn
  obtain ⟨fs, f, j, h1, h2, h3, h4, h5⟩ := hf.out
  refine tr_op hg hN (vals := [.aptr es.length l sz i off]) (fp := [(l, .arr es sz t')]) (wr := []) (v := .aptr es.length l sz i (off + fo)) ⟨_, _, rfl, hx, rfl⟩ ?_ (fun l' o' hm => by simp at hm; obtain ⟨rfl, rfl⟩ := hm; exact ho) (fun _ h => by cases h) h
  intro E M ι H w a next Q hinv hG hfp hvs _ hk
  have hH := hfp l (.arr es sz t') (by simp)
  simp only [Op.operands, List.map_cons, List.map_nil, RepVs] at hvs
  obtain ⟨v1, r1, e1, e2, _⟩ := hvs
  injection e1 with e1 _
  simp only [RepV] at e2
  obtain ⟨_, bd, b1, b2, b3, b4⟩ := e2
  obtain ⟨bd', o1, o2, o3, _⟩ := hinv.obj l _ hH
  rw [b1] at o1; injection o1 with o1; subst o1
  obtain ⟨blk, hk1, hv⟩ := b4 o3
  have hrun : (execOp a.eval ⟨dst, .fieldAddr s x m, ty, pos, af, gd⟩).run P w = .ok (.value (.pointer (some ⟨blk, i * sz + (off + fo), none⟩))) w := by
    have hz : ¬ j.size = 0 := by omega
    simp only [execOp, e1, hv, Instr.fieldAt, Instr.sureAddr, underlying, Sem.run_bind, run_program, Result.andThen_ok, h1, Sem.run_pure, h2, fieldPlace, sizeOf, typeInfo, h4, hz, if_false, h3, addr_add, Nat.add_assoc]
  unfold Oper.wp
  rw [hrun, Oper.upon_value]
  refine hk M ι w _ (Grow.refl _ _) (fun _ _ => rfl) hinv ?_
  simp only [RepV]
  exact ⟨⟨_, rfl⟩, bd, b1, b2, b3, fun _ => ⟨blk, hk1, rfl⟩⟩
theorem t_load1a {dst : Option Nat} {t : TypeId} {x : Operand} {ty pos af gd} {n l sz i off : Nat} {es : List (List D)} {t' : TypeId} {el : List D} {v : D} {k : Nat} (ht : Ty P t k false) (hx : opd C.G (look ρ) x = some (.aptr n l sz i off)) (hn : n = es.length) (ho : lookO σ l = some (.arr es sz t')) (hi : es[i]? = some el) (hv : el[off]? = some v)
    (hg : guardIs ops (look ρ) ⟨dst, .load t x, ty, pos, af, gd⟩ true) (hN : dstOk ⟨dst, .load t x, ty, pos, af, gd⟩ C.N = true)
    (h : Tr P C ops rest ⟨putL ρ dst (.d v), σ, ls⟩ (fun fs x' => K (⟨Oper.looksAt ops ⟨dst, .load t x, ty, pos, af, gd⟩, dst, [l], []⟩ :: fs) x')) : Tr P C ops (⟨dst, .load t x, ty, pos, af, gd⟩ :: rest) ⟨ρ, σ, ls⟩ K := by
  refine tr_op hg hN (vals := [.aptr n l sz i off]) (fp := [(l, .arr es sz t')]) (wr := []) (v := .d v) ⟨_, _, rfl, hx, rfl⟩ ?_ (fun l' o' hm => by simp at hm; obtain ⟨rfl, rfl⟩ := hm; exact ho) (fun _ h => by cases h) h
  intro E M ι H w a next Q hinv hG hfp hvs _ hk
  have hH := hfp l (.arr es sz t') (by simp)
  simp only [Op.operands, List.map_cons, List.map_nil, RepVs] at hvs
  obtain ⟨v1, r1, e1, e2, _⟩ := hvs
  injection e1 with e1 _
  obtain ⟨bd, b, vs, rst, b1, b2, b3, b4, b5, b6, b7, b8, b9, b10, b11, b12, b13, b14⟩ := hinv.arr_at hH e2 hn hi
  obtain ⟨d, h1, h2⟩ := ht.und
  have hoff : off < el.length := (List.getElem?_eq_some_iff.1 hv).1
  have hel := b11 el (List.mem_of_getElem? hi)
  obtain ⟨u, k1, k2⟩ := b13.get (i := off) (c := V.d v) (by rw [List.getElem?_map, hv]; rfl)
  have hcell : w.cell? ⟨b, i * sz + off, none⟩ = some u := by
    rw [List.getElem?_take, if_pos (by omega), List.getElem?_drop] at k1
    rw [cell_at b6, List.getElem?_toArray, List.getElem?_append_left (by have := (List.getElem?_eq_some_iff.1 k1).1; omega)]
    exact k1
  have hrun : (execOp a.eval ⟨dst, .load t x, ty, pos, af, gd⟩).run P w = .ok (.value u) w := by
    simp only [execOp, e1, b5, Instr.loadAt, Instr.sureAddr, Sem.run_bind, Sem.run_pure, Result.andThen_ok]
    rw [run_loadVar_one h1 h2 hcell]
    rfl
  unfold Oper.wp
  rw [hrun, Oper.upon_value]
  exact hk M ι w u (Grow.refl _ _) (fun _ _ => rfl) hinv (by simp only [RepV] at k2 ⊢; exact k2)
theorem t_loadNa {dst : Option Nat} {t : TypeId} {x : Operand} {ty pos af gd} {n l sz i off : Nat} {es : List (List D)} {t' : TypeId} {el us : List D} {k : Nat} (ht : Ty P t k true) (hx : opd C.G (look ρ) x = some (.aptr n l sz i off)) (hn : n = es.length) (ho : lookO σ l = some (.arr es sz t')) (hi : es[i]? = some el) (hv : (el.drop off).take k = us) (hl : us.length = k)
    (hg : guardIs ops (look ρ) ⟨dst, .load t x, ty, pos, af, gd⟩ true) (hN : dstOk ⟨dst, .load t x, ty, pos, af, gd⟩ C.N = true)
    (h : Tr P C ops rest ⟨putL ρ dst (.agg (us.map V.d)), σ, ls⟩ (fun fs x' => K (⟨Oper.looksAt ops ⟨dst, .load t x, ty, pos, af, gd⟩, dst, [l], []⟩ :: fs) x')) : Tr P C ops (⟨dst, .load t x, ty, pos, af, gd⟩ :: rest) ⟨ρ, σ, ls⟩ K := by
  refine tr_op hg hN (vals := [.aptr n l sz i off]) (fp := [(l, .arr es sz t')]) (wr := []) (v := .agg (us.map V.d)) ⟨_, _, rfl, hx, rfl⟩ ?_ (fun l' o' hm => by simp at hm; obtain ⟨rfl, rfl⟩ := hm; exact ho) (fun _ h => by cases h) h
  intro E M ι H w a next Q hinv hG hfp hvs _ hk
  have hH := hfp l (.arr es sz t') (by simp)
  simp only [Op.operands, List.map_cons, List.map_nil, RepVs] at hvs
  obtain ⟨v1, r1, e1, e2, _⟩ := hvs
  injection e1 with e1 _
  obtain ⟨bd, b, vs, rst, b1, b2, b3, b4, b5, b6, b7, b8, b9, b10, b11, b12, b13, b14⟩ := hinv.arr_at hH e2 hn hi
  obtain ⟨d, h1, h2⟩ := ht.und
  obtain ⟨inf, h3, h4⟩ := ht.info
  have hel := b11 el (List.mem_of_getElem? hi)
  have hr : RepVs M (fun _ => none) (us.map V.d) ((((vs.drop (i * sz)).take sz).drop off).take k) := by rw [← hv, List.map_take, List.map_drop]; exact (b13.drop off).take k
  have hrun : (execOp a.eval ⟨dst, .load t x, ty, pos, af, gd⟩).run P w = .ok (.value (.agg ((((vs.drop (i * sz)).take sz).drop off).take k).toArray)) w := by
    simp only [execOp, e1, b5, Instr.loadAt, Instr.sureAddr, Sem.run_bind, Sem.run_pure, Result.andThen_ok]
    rw [run_loadVar_agg h3 h1 h2 (by rw [h4, hr.length, List.length_map, hl]) (fun j v hj => by
      rw [List.getElem?_take] at hj
      split at hj
      · rw [List.getElem?_drop, List.getElem?_take] at hj
        split at hj
        · rw [List.getElem?_drop] at hj
          rw [addr_add, cell_at b6, List.getElem?_toArray, List.getElem?_append_left (by have := (List.getElem?_eq_some_iff.1 hj).1; omega)]
          rw [show i * sz + off + j = i * sz + (off + j) by omega]
          exact hj
        · cases hj
      · cases hj)]
    rfl
  unfold Oper.wp
  rw [hrun, Oper.upon_value]
  refine hk M ι w _ (Grow.refl _ _) (fun _ _ => rfl) hinv ?_
  simp only [RepV]
  exact ⟨_, rfl, RepVs.d_env hr, RepVs.d_one hr⟩
theorem t_store_a {t : TypeId} {x y : Operand} {ty pos af gd} {n l sz i off k : Nat} {es fs : List (List D)} {t' : TypeId} {el us : List D} {v : V} {b0 : Bool} (ht : Ty P t k b0) (hx : opd C.G (look ρ) x = some (.aptr n l sz i off)) (hy : opd C.G (look ρ) y = some v) (hc : Elem v us) (hn : n = es.length)
    (ho : lookO σ l = some (.arr es sz t')) (hi : es[i]? = some el) (hl : us.length = k) (hfit : off + k ≤ sz) (hw : es.set i (spl el off us) = fs)
    (hg : guardIs ops (look ρ) ⟨none, .store t x y, ty, pos, af, gd⟩ true)
    (h : Tr P C ops rest ⟨ρ, (l, some (.arr fs sz t')) :: σ, l :: ls⟩ (fun fs x' => K (⟨Oper.looksAt ops ⟨none, .store t x y, ty, pos, af, gd⟩, none, [l], [l]⟩ :: fs) x')) : Tr P C ops (⟨none, .store t x y, ty, pos, af, gd⟩ :: rest) ⟨ρ, σ, ls⟩ K := by
  subst hw
  refine tr_op hg rfl (vals := [.aptr n l sz i off, v]) (fp := [(l, .arr es sz t')]) (wr := [(l, some (.arr (es.set i (spl el off us)) sz t'))]) (v := .any) ⟨_, _, rfl, hx, _, _, rfl, hy, rfl⟩ ?_
    (fun l' o' hm => by simp at hm; obtain ⟨rfl, rfl⟩ := hm; exact ho) (fun l' h1 h2 => by simp at h1 h2; exact absurd h1 h2) h
  intro E M ι H w a next Q hinv hG hfp hvs _ hk
  have hH := hfp l (.arr es sz t') (by simp)
  simp only [Op.operands, List.map_cons, List.map_nil, RepVs] at hvs
  obtain ⟨c, r, e1, e2, c2, r2, e3, e4, _⟩ := hvs
  injection e1 with e1 e5
  rw [e3] at e5; injection e5 with e5 _
  rw [← e5] at e4
  obtain ⟨m1, m2⟩ := hc.rep _ _ _ e4
  obtain ⟨bd, b, vs, rst, b1, b2, b3, b4, b5, b6, b7, b8, b9, b10, b11, b12, b13, b14⟩ := hinv.arr_at hH e2 hn hi
  obtain ⟨inf, h3, h4⟩ := ht.info
  have hel := b11 el (List.mem_of_getElem? hi)
  have hcl := m1.length
  rw [List.length_map] at hcl
  have hsz : (a.eval y).cells.size = k := by rw [← Array.length_toList, hcl, hl]
  have hfit2 : i * sz + off + k ≤ es.length * sz := mul_fit b14 hfit
  have hrun0 := run_storeCells_at P b (i * sz + off) t' (a.eval y).cells.toList 0 (vs ++ rst).toArray w b6 (by simp only [Nat.add_zero, List.size_toArray, List.length_append, hcl, hl]; omega) m2
  simp only [Nat.add_zero] at hrun0
  have hcont : ((vs ++ rst).toArray.toList.take (i * sz + off) ++ (a.eval y).cells.toList ++ (vs ++ rst).toArray.toList.drop (i * sz + off + (a.eval y).cells.toList.length)) = AM.spl vs (i * sz + off) (a.eval y).cells.toList ++ rst := by
    rw [← spl_app (by rw [hcl, hl]; omega)]; rfl
  rw [hcont] at hrun0
  have hrun : (execOp a.eval ⟨none, .store t x y, ty, pos, af, gd⟩).run P w = .ok .skip (w.setRow b (AM.spl vs (i * sz + off) (a.eval y).cells.toList ++ rst).toArray) := by
    simp only [execOp, e1, b5, Instr.storeAt, Instr.sureAddr, storeVar, sizeOf, typeInfo, Sem.run_bind, run_program, Result.andThen_ok, h3, Sem.run_pure, h4, hsz, ne_eq, not_true_eq_false, if_false]
    rw [hrun0]; rfl
  unfold Oper.wp
  rw [hrun, Oper.upon_skip]
  have hset : ι.set l ⟨.row, some b, bd.cap, (es.set i (spl el off us)).length⟩ = ι := funext fun q => by
    simp only [Env.set]
    split
    · rename_i e; subst e
      rw [b1]
      obtain ⟨t0, blk0, cap0, n0⟩ := bd
      simp only at b2 b3 b4
      subst b2; subst b3; subst b4
      simp
    · rfl
  have hsl : (AM.spl vs (i * sz + off) (a.eval y).cells.toList).length = vs.length := spl_len (by rw [hcl, hl]; omega)
  have g2 := hinv.arr_set (l := l) (b := b) (cap := bd.cap) (es := es.set i (spl el off us)) (sz := sz) (t := t') (vs := AM.spl vs (i * sz + off) (a.eval y).cells.toList) (rest := rst) (w' := w.setRow b (AM.spl vs (i * sz + off) (a.eval y).cells.toList ++ rst).toArray)
    (by rw [hset]; exact Grow.refl _ _) (fun a v hv hab => (hinv.sep l _ bd b hH b1 b4 a v hv hab).elim) (.inr ⟨_, bd, hH, b1, b4⟩)
    (fun e he => by
      rcases List.mem_or_eq_of_mem_set he with he | rfl
      · exact b11 e he
      · rw [spl_len (by omega)]; exact hel) (by rw [List.length_set]; exact b9) (by rw [List.length_set]; exact b10) (setRow_heap w b _ _ _ _ b6) (by rw [hsl, List.length_set]; exact b7) (by rw [List.length_append, hsl, ← List.length_append]; exact b8)
    (by rw [flat_set b11 hi (by omega), spl_map]; exact RepVs.spl _ b12 (RepVs.d_env m1)) (fun k hk' => setRow_other w b k _ hk') (by simp) rfl rfl rfl
  rw [hset] at g2
  exact hk M ι _ undef (Grow.refl _ _) (fun _ _ => rfl) (by rw [Sto.upd_one]; exact g2) (by simp [RepV])
end

/-! ### What is known to the letter: a map that is gone through -/
theorem Inv.raw_at {E M ι H w} (h : Inv E M ι H w) {l : Nat} {q : Option Nat} {tg : Tag} {ob : Obj} (ho : H l = some (.raw q tg ob)) : ∃ bd b, ι l = some bd ∧ bd.tag = tg ∧ bd.blk = some b ∧ (∀ c, q = some c → c = b) ∧ w.heap[b]? = some ob := by
  obtain ⟨bd, e1, e2, b, e3, e4, e5⟩ := h.obj l _ ho
  exact ⟨bd, b, e1, e2, e3, e4, e5⟩
/-- A new block that is known to the letter. -/
theorem Inv.alloc_raw {E M ι H w} (h : Inv E M ι H w) {l : Nat} (hl : ι l = none) (ob : Obj) :
    Grow M ι M (ι.set l ⟨.cells, some w.heap.size, 0, 0⟩) ∧ Inv E M (ι.set l ⟨.cells, some w.heap.size, 0, 0⟩) (H.set l (some (.raw none .cells ob))) (w.alloc ob) := by
  have hg : Grow M ι M (ι.set l ⟨.cells, some w.heap.size, 0, 0⟩) := Grow.fresh (fun _ _ h => h) hl _
  refine ⟨hg, h.upd (fun k => k = l) (fun k => k = w.heap.size) hg (fun k hk => heap_push_ne w _ hk) (fun k hk => .inl (by omega)) (fun k hk => ⟨Sto.set_other _ _ hk, fun _ _ => Env.set_other _ _ hk⟩) ?_ ?_ ?_ ?_ (by rw [heap_push_size]; omega) rfl rfl rfl⟩
  · rintro k o rfl ho
    rw [Sto.set_same] at ho; injection ho with ho; subst ho
    refine ⟨_, Env.set_same _ _ _, ⟨rfl, w.heap.size, rfl, fun c hc => (by cases hc), heap_push_new w _⟩, ?_⟩
    rintro b hb
    injection hb with hb; subst hb
    refine ⟨rfl, fun a v hv hab => ?_⟩
    have := cell_lt (h.mem a v hv); omega
  · rintro k k' _ _ _ _ _ rfl rfl _ _ _ _ _ _; rfl
  · intro a v hv hn; rw [hv] at hn; cases hn
  · intro a v hv ht
    have := cell_lt (h.mem a v hv); omega

section
variable {P : Program} {C : Ctx} {ops : Array Oper} {rest : List Oper} {ρ : List (Nat × V)} {σ : List (Nat × Option O)} {ls : List Nat} {K : List FP → A → Prop}
theorem t_range {d : Nat} {t ke e : TypeId} {x : Operand} {ty pos af gd} {l bm clock : Nat} {ms : Array MapEntry} (ht : P.underlying t = some (.map ke e)) (hx : opd C.G (look ρ) x = some (.map l)) (ho : lookO σ l = some (.raw (some bm) .map (.map ms clock)))
    (hg : guardIs ops (look ρ) ⟨some d, .range t x, ty, pos, af, gd⟩ true) (hN : dstOk ⟨some d, .range t x, ty, pos, af, gd⟩ C.N = true) (hl : memB d ls = false) (hne : Nat.beq l d = false)
    (h : Tr P C ops rest ⟨(d, .ptr d 0) :: ρ, (d, some (.raw none .cells (.mapIter (some bm) clock #[] clock))) :: σ, d :: ls⟩ (fun fs x' => K (⟨Oper.looksAt ops ⟨some d, .range t x, ty, pos, af, gd⟩, some d, [l], [d]⟩ :: fs) x')) : Tr P C ops (⟨some d, .range t x, ty, pos, af, gd⟩ :: rest) ⟨ρ, σ, ls⟩ K := by
  refine tr_op hg hN (vals := [.map l]) (fp := [(l, .raw (some bm) .map (.map ms clock))]) (wr := [(d, some (.raw none .cells (.mapIter (some bm) clock #[] clock)))]) (v := .ptr d 0) ⟨_, _, rfl, hx, rfl⟩ ?_
    (fun l' o' hm => by simp at hm; obtain ⟨rfl, rfl⟩ := hm; exact ho) (fun l hl' _ => by simp at hl'; subst hl'; exact not_mem_of hl) h
  intro E M ι H w a next Q hi hG hfp hvs hfr hk
  have hH := hfp l (.raw (some bm) .map (.map ms clock)) (by simp)
  have hld : l ≠ d := fun e => by subst e; rw [Nat.beq_refl] at hne; cases hne
  have hfr' : ι d = none := hfr d (by simp) (by simpa using fun e => hld e.symm)
  simp only [Op.operands, List.map_cons, List.map_nil, RepVs, RepV] at hvs
  obtain ⟨c, r, e1, ⟨bd', b', e2, e3, e4, e5⟩, _⟩ := hvs
  injection e1 with e1 _
  obtain ⟨bd, b, c1, c2, c3, c4, c5⟩ := hi.raw_at hH
  rw [e2] at c1; injection c1 with c1; subst c1
  rw [e4] at c3; injection c3 with c3; subst c3
  have := c4 bm rfl
  subst this
  have hrun : (execOp a.eval ⟨some d, .range t x, ty, pos, af, gd⟩).run P w = .ok (.value (.pointer (some ⟨w.heap.size, 0, none⟩))) (w.alloc (.mapIter (some bm) clock #[] clock)) := by
    simp [execOp, e1, e5, run_range_map w t ke e bm ms clock ht c5]
  unfold Oper.wp
  rw [hrun, Oper.upon_value]
  obtain ⟨g1, g2⟩ := hi.alloc_raw hfr' (.mapIter (some bm) clock #[] clock)
  refine hk M _ _ _ g1 (fun l hl' => Env.set_other _ _ (by simpa using hl')) (by rw [Sto.upd_one]; exact g2) ?_
  simp only [RepV]
  exact ⟨_, _, Env.set_same _ _ _, rfl, rfl, rfl⟩
theorem t_entry {dst : Option Nat} {x : Operand} {ty pos af gd} {L l bm since clock : Nat} {seen : Array Nat} {ms : Array MapEntry} {e : MapEntry} {k : IntKind} {n : Int} (hx : opd C.G (look ρ) x = some (.ptr L 0)) (hL : lookO σ L = some (.raw none .cells (.mapIter (some bm) since (seen.push e.born) clock))) (ho : lookO σ l = some (.raw (some bm) .map (.map ms clock)))
    (he : e ∈ ms.toList) (hnd : (ms.toList.map (·.born)).Nodup) (hkey : e.key = .int k n)
    (hg : guardIs ops (look ρ) ⟨dst, .entry x, ty, pos, af, gd⟩ true) (hN : dstOk ⟨dst, .entry x, ty, pos, af, gd⟩ C.N = true)
    (h : Tr P C ops rest ⟨putL ρ dst (.tup [.d (.int k n), .any]), σ, ls⟩ (fun fs x' => K (⟨Oper.looksAt ops ⟨dst, .entry x, ty, pos, af, gd⟩, dst, [L, l], []⟩ :: fs) x')) : Tr P C ops (⟨dst, .entry x, ty, pos, af, gd⟩ :: rest) ⟨ρ, σ, ls⟩ K := by
  refine tr_op hg hN (vals := [.ptr L 0]) (fp := [(L, .raw none .cells (.mapIter (some bm) since (seen.push e.born) clock)), (l, .raw (some bm) .map (.map ms clock))]) (wr := []) (v := .tup [.d (.int k n), .any]) ⟨_, _, rfl, hx, rfl⟩ ?_
    (fun l' o' hm => by simp at hm; rcases hm with ⟨rfl, rfl⟩ | ⟨rfl, rfl⟩ <;> assumption) (fun _ h => by cases h) h
  intro E M ι H w a next Q hi hG hfp hvs _ hk
  have hH := hfp L _ List.mem_cons_self
  have hH2 := hfp l (.raw (some bm) .map (.map ms clock)) (List.mem_cons_of_mem _ List.mem_cons_self)
  simp only [Op.operands, List.map_cons, List.map_nil, RepVs, RepV] at hvs
  obtain ⟨c, r, e1, ⟨bd', b', e2, e3, e4, e5⟩, _⟩ := hvs
  injection e1 with e1 _
  obtain ⟨bd, b, c1, c2, c3, c4, c5⟩ := hi.raw_at hH
  rw [e2] at c1; injection c1 with c1; subst c1
  rw [e4] at c3; injection c3 with c3; subst c3
  obtain ⟨bd2, b2, d1, d2, d3, d4, d5⟩ := hi.raw_at hH2
  have := d4 bm rfl
  subst this
  have hrun : (execOp a.eval ⟨dst, .entry x, ty, pos, af, gd⟩).run P w = .ok (.value (.tuple #[.int k n, e.val])) w := by
    simp [execOp, e1, e5, run_entry_at w b' bm since seen ms clock e c5 d5 he hnd, hkey]
  unfold Oper.wp
  rw [hrun, Oper.upon_value]
  refine hk M ι w _ (Grow.refl _ _) (fun _ _ => rfl) hi ?_
  simp only [RepV, RepVs, RepD]
  exact ⟨[.int k n, e.val], rfl, _, _, rfl, rfl, _, _, rfl, trivial, rfl⟩
end
end Go.AM

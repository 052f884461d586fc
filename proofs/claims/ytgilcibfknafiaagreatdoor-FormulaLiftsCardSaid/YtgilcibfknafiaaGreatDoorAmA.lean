/-
  The abstract values of a walk: what a cell or a temporary holds, said by plain data, and what that means in memory.
-/
import Derived.WalkKit
import Derived.KernelRfl
set_option linter.unusedVariables false
set_option linter.unusedSimpArgs false
namespace Go.AM
open Go Go.RowKit

/-- What is known to lie in memory and never turns again. -/
abbrev Mem := Addr → Option Value

/-- Plain data, one cell each; a slice has elements of some cells. -/
inductive D where
  | bool (b : Bool)
  | int (k : IntKind) (n : Int)
  | str (s : ByteArray)
  | slice (es : List (List D))
  | nils
  | fn (f : FuncId)
  | nilFunc
  | nilPtr
  | nilMap
  | nilIface
  deriving Inhabited

mutual
/-- A value is what a datum says. -/
def RepD (M : Mem) : D → Value → Prop
  | .bool b, v => v = .bool b
  | .int k n, v => v = .int k n
  | .str s, v => v = .string s
  | .slice es, v => ∃ a c sz, v = .slice a es.length c ∧ es.length ≤ c ∧ es.length ≤ maxLen ∧ (∀ e ∈ es, e.length = sz) ∧ (es ≠ [] → ∃ ad : Addr, a = some ad ∧ ad.spot = none ∧ RepRows M es ad)
  | .nils, v => v = .slice none 0 0
  | .fn f, v => v = .func (.func f) #[] #[]
  | .nilFunc, v => v = .nilFunc
  | .nilPtr, v => v = .pointer none
  | .nilMap, v => v = .map none
  | .nilIface, v => v = .nilIface
def RepRows (M : Mem) : List (List D) → Addr → Prop
  | [], _ => True
  | e :: es, ad => RepRow M e ad ∧ RepRows M es (ad.add e.length)
def RepRow (M : Mem) : List D → Addr → Prop
  | [], _ => True
  | d :: ds, ad => (∃ c, M ad = some c ∧ RepD M d c) ∧ RepRow M ds (ad.add 1)
end

/-- A label is bound to a block: one of cells, one that is appended to, one of a map. -/
inductive Tag where | cells | row | map
  deriving DecidableEq
structure Bind where
  tag : Tag
  blk : Option Nat
  cap : Nat
  n : Nat
abbrev Env := Nat → Option Bind

/-- What a temporary or a cell holds. -/
inductive V where
  | any
  | d (x : D)
  | full (es : List (List D))
  | ptr (l : Nat) (off : Nat)
  | cptr (cs : List D)
  | own (es : List (List D)) (l : Nat)
  | clo (f : FuncId) (caps : List V)
  | map (l : Nat)
  | agg (cs : List V)
  | tup (vs : List V)
  deriving Inhabited

mutual
def RepV (M : Mem) (ι : Env) : V → Value → Prop
  | .any, _ => True
  | .d x, v => RepD M x v
  | .full es, v => RepD M (.slice es) v ∧ ∃ a, v = .slice a es.length es.length
  | .ptr l off, v => ∃ bd b, ι l = some bd ∧ bd.tag = .cells ∧ bd.blk = some b ∧ v = .pointer (some ⟨b, off, none⟩)
  | .cptr cs, v => ∃ ad : Addr, v = .pointer (some ad) ∧ ad.spot = none ∧ RepRow M cs ad
  | .own es l, v => RepD M (.slice es) v ∧ ∃ bd, ι l = some bd ∧ bd.tag = .row ∧ es.length ≤ bd.n ∧
      (bd.n = es.length → match bd.blk with
        | none => ∃ a, v = .slice a es.length es.length
        | some b => v = .slice (some ⟨b, 0, none⟩) es.length bd.cap)
  | .clo f cs, v => ∃ vs : List Value, v = .func (.func f) #[] vs.toArray ∧ RepVs M ι cs vs
  | .map l, v => ∃ bd b, ι l = some bd ∧ bd.tag = .map ∧ bd.blk = some b ∧ v = .map (some b)
  | .agg cs, v => ∃ vs : List Value, v = .agg vs.toArray ∧ RepVs M ι cs vs ∧ ∀ x ∈ vs, x.oneCell' = true
  | .tup cs, v => ∃ vs : List Value, v = .tuple vs.toArray ∧ RepVs M ι cs vs
def RepVs (M : Mem) (ι : Env) : List V → List Value → Prop
  | [], l => l = []
  | c :: cs, l => ∃ v r, l = v :: r ∧ RepV M ι c v ∧ RepVs M ι cs r
end

/-- What is known grows; a label keeps its block, but for a row that was appended to. -/
structure Grow (M : Mem) (ι : Env) (M' : Mem) (ι' : Env) : Prop where
  mem : ∀ a v, M a = some v → M' a = some v
  env : ∀ l bd, ι l = some bd → ∃ bd', ι' l = some bd' ∧ (bd' = bd ∨ (bd.tag = .row ∧ bd'.tag = .row ∧ bd.n < bd'.n))

theorem Grow.refl (M : Mem) (ι : Env) : Grow M ι M ι := ⟨fun _ _ h => h, fun _ bd h => ⟨bd, h, .inl rfl⟩⟩
theorem Grow.trans {M ι M' ι' M'' ι''} (h : Grow M ι M' ι') (k : Grow M' ι' M'' ι'') : Grow M ι M'' ι'' :=
  ⟨fun a v hv => k.mem a v (h.mem a v hv), fun l bd hl => by
    obtain ⟨b1, h1, e1⟩ := h.env l bd hl
    obtain ⟨b2, h2, e2⟩ := k.env l b1 h1
    refine ⟨b2, h2, ?_⟩
    rcases e1 with rfl | ⟨t1, t2, t3⟩
    · exact e2
    · rcases e2 with rfl | ⟨s1, s2, s3⟩
      · exact .inr ⟨t1, t2, t3⟩
      · exact .inr ⟨t1, s2, by omega⟩⟩

mutual
theorem RepD.grow {M M' : Mem} (h : ∀ a v, M a = some v → M' a = some v) : ∀ (x : D) (v : Value), RepD M x v → RepD M' x v
  | .bool _, _, hv => hv
  | .int _ _, _, hv => hv
  | .str _, _, hv => hv
  | .nils, _, hv => hv
  | .fn _, _, hv => hv
  | .nilFunc, _, hv => hv
  | .nilPtr, _, hv => hv
  | .nilMap, _, hv => hv
  | .nilIface, _, hv => hv
  | .slice es, v, hv => by
    simp only [RepD] at hv ⊢
    obtain ⟨a, c, sz, h1, h2, h3, h4, h5⟩ := hv
    exact ⟨a, c, sz, h1, h2, h3, h4, fun hn => by
      obtain ⟨ad, e1, e2, e3⟩ := h5 hn
      exact ⟨ad, e1, e2, RepRows.grow h es ad e3⟩⟩
theorem RepRows.grow {M M' : Mem} (h : ∀ a v, M a = some v → M' a = some v) : ∀ (es : List (List D)) (ad : Addr), RepRows M es ad → RepRows M' es ad
  | [], _, _ => by simp only [RepRows]
  | e :: es, ad, hv => by
    simp only [RepRows] at hv ⊢
    exact ⟨RepRow.grow h e ad hv.1, RepRows.grow h es _ hv.2⟩
theorem RepRow.grow {M M' : Mem} (h : ∀ a v, M a = some v → M' a = some v) : ∀ (ds : List D) (ad : Addr), RepRow M ds ad → RepRow M' ds ad
  | [], _, _ => by simp only [RepRow]
  | d :: ds, ad, hv => by
    simp only [RepRow] at hv ⊢
    obtain ⟨⟨c, h1, h2⟩, h3⟩ := hv
    exact ⟨⟨c, h _ _ h1, RepD.grow h d c h2⟩, RepRow.grow h ds _ h3⟩
end

mutual
theorem RepV.grow {M M' : Mem} {ι ι' : Env} (h : Grow M ι M' ι') : ∀ (x : V) (v : Value), RepV M ι x v → RepV M' ι' x v
  | .any, _, _ => by simp only [RepV]
  | .d x, v, hv => by simp only [RepV] at hv ⊢; exact RepD.grow h.mem x v hv
  | .full es, v, hv => by simp only [RepV] at hv ⊢; exact ⟨RepD.grow h.mem _ v hv.1, hv.2⟩
  | .cptr cs, v, hv => by
    simp only [RepV] at hv ⊢
    obtain ⟨ad, h1, h2, h3⟩ := hv
    exact ⟨ad, h1, h2, RepRow.grow h.mem cs ad h3⟩
  | .ptr l off, v, hv => by
    simp only [RepV] at hv ⊢
    obtain ⟨bd, b, h1, h2, h3, h4⟩ := hv
    obtain ⟨bd', h5, h6⟩ := h.env l bd h1
    rcases h6 with rfl | ⟨h6, _⟩
    · exact ⟨bd', b, h5, h2, h3, h4⟩
    · rw [h2] at h6; cases h6
  | .map l, v, hv => by
    simp only [RepV] at hv ⊢
    obtain ⟨bd, b, h1, h2, h3, h4⟩ := hv
    obtain ⟨bd', h5, h6⟩ := h.env l bd h1
    rcases h6 with rfl | ⟨h6, _⟩
    · exact ⟨bd', b, h5, h2, h3, h4⟩
    · rw [h2] at h6; cases h6
  | .own es l, v, hv => by
    simp only [RepV] at hv ⊢
    obtain ⟨h0, bd, h1, h2, h3, h4⟩ := hv
    obtain ⟨bd', h5, h6⟩ := h.env l bd h1
    refine ⟨RepD.grow h.mem _ v h0, bd', h5, ?_⟩
    rcases h6 with rfl | ⟨_, h7, h8⟩
    · exact ⟨h2, h3, h4⟩
    · exact ⟨h7, by omega, fun e => by omega⟩
  | .clo f cs, v, hv => by
    simp only [RepV] at hv ⊢
    obtain ⟨vs, h1, h2⟩ := hv
    exact ⟨vs, h1, RepVs.grow h cs vs h2⟩
  | .agg cs, v, hv => by
    simp only [RepV] at hv ⊢
    obtain ⟨vs, h1, h2, h3⟩ := hv
    exact ⟨vs, h1, RepVs.grow h cs vs h2, h3⟩
  | .tup cs, v, hv => by
    simp only [RepV] at hv ⊢
    obtain ⟨vs, h1, h2⟩ := hv
    exact ⟨vs, h1, RepVs.grow h cs vs h2⟩
theorem RepVs.grow {M M' : Mem} {ι ι' : Env} (h : Grow M ι M' ι') : ∀ (xs : List V) (l : List Value), RepVs M ι xs l → RepVs M' ι' xs l
  | [], _, hv => by simp only [RepVs] at hv ⊢; exact hv
  | c :: cs, l, hv => by
    simp only [RepVs] at hv ⊢
    obtain ⟨v, r, h1, h2, h3⟩ := hv
    exact ⟨v, r, h1, RepV.grow h c v h2, RepVs.grow h cs r h3⟩
end

/-- Every datum is one cell. -/
theorem RepD.one {M : Mem} {x : D} {v : Value} (h : RepD M x v) : v.oneCell' = true := by
  cases x <;> simp only [RepD] at h
  case slice => obtain ⟨_, _, _, rfl, _⟩ := h; rfl
  all_goals (subst h; rfl)

mutual
/-- All labels are in a set. -/
def V.on (S : List Nat) : V → Bool
  | .ptr l _ => S.contains l
  | .own _ l => S.contains l
  | .map l => S.contains l
  | .clo _ cs => V.onAll S cs
  | .agg cs => V.onAll S cs
  | .tup cs => V.onAll S cs
  | .any => true
  | .d _ => true
  | .full _ => true
  | .cptr _ => true
def V.onAll (S : List Nat) : List V → Bool
  | [] => true
  | c :: cs => V.on S c && V.onAll S cs
end

mutual
/-- What is held depends on its labels alone. -/
theorem RepV.on {M : Mem} {ι ι' : Env} {S : List Nat} (h : ∀ l, S.contains l = true → ι' l = ι l) : ∀ (x : V) (v : Value), x.on S = true → RepV M ι x v → RepV M ι' x v
  | .any, _, _, _ => by simp only [RepV]
  | .d x, v, _, hv => by simpa only [RepV] using hv
  | .full es, v, _, hv => by simpa only [RepV] using hv
  | .cptr cs, v, _, hv => by simpa only [RepV] using hv
  | .ptr l off, v, hs, hv => by simp only [V.on] at hs; simp only [RepV] at hv ⊢; rw [h l hs]; exact hv
  | .map l, v, hs, hv => by simp only [V.on] at hs; simp only [RepV] at hv ⊢; rw [h l hs]; exact hv
  | .own es l, v, hs, hv => by simp only [V.on] at hs; simp only [RepV] at hv ⊢; rw [h l hs]; exact hv
  | .clo f cs, v, hs, hv => by
    simp only [V.on] at hs; simp only [RepV] at hv ⊢
    obtain ⟨vs, h1, h2⟩ := hv
    exact ⟨vs, h1, RepVs.on h cs vs hs h2⟩
  | .agg cs, v, hs, hv => by
    simp only [V.on] at hs; simp only [RepV] at hv ⊢
    obtain ⟨vs, h1, h2, h3⟩ := hv
    exact ⟨vs, h1, RepVs.on h cs vs hs h2, h3⟩
  | .tup cs, v, hs, hv => by
    simp only [V.on] at hs; simp only [RepV] at hv ⊢
    obtain ⟨vs, h1, h2⟩ := hv
    exact ⟨vs, h1, RepVs.on h cs vs hs h2⟩
theorem RepVs.on {M : Mem} {ι ι' : Env} {S : List Nat} (h : ∀ l, S.contains l = true → ι' l = ι l) : ∀ (xs : List V) (l : List Value), V.onAll S xs = true → RepVs M ι xs l → RepVs M ι' xs l
  | [], _, _, hv => by simpa only [RepVs] using hv
  | c :: cs, l, hs, hv => by
    simp only [V.onAll, Bool.and_eq_true] at hs
    simp only [RepVs] at hv ⊢
    obtain ⟨v, r, h1, h2, h3⟩ := hv
    exact ⟨v, r, h1, RepV.on h c v hs.1 h2, RepVs.on h cs r hs.2 h3⟩
end

theorem RepVs.length {M : Mem} {ι : Env} : ∀ {cs : List V} {vs : List Value}, RepVs M ι cs vs → vs.length = cs.length
  | [], _, h => by simp only [RepVs] at h; subst h; rfl
  | c :: cs, l, h => by
    simp only [RepVs] at h
    obtain ⟨v, r, rfl, _, h3⟩ := h
    simp [RepVs.length h3]
theorem RepVs.get {M : Mem} {ι : Env} : ∀ {cs : List V} {vs : List Value} {i : Nat} {c : V}, RepVs M ι cs vs → cs[i]? = some c → ∃ v, vs[i]? = some v ∧ RepV M ι c v
  | [], _, _, _, _, hc => by simp at hc
  | x :: cs, l, i, c, h, hc => by
    simp only [RepVs] at h
    obtain ⟨v, r, rfl, h2, h3⟩ := h
    cases i with
    | zero => simp at hc; subst hc; exact ⟨v, rfl, h2⟩
    | succ i => simp at hc; simpa using RepVs.get h3 hc
theorem RepVs.set {M : Mem} {ι : Env} : ∀ {cs : List V} {vs : List Value} {i : Nat} {c : V} {v : Value}, RepVs M ι cs vs → RepV M ι c v → RepVs M ι (cs.set i c) (vs.set i v)
  | [], _, _, _, _, h, _ => by simpa [RepVs] using h
  | x :: cs, l, i, c, w, h, hc => by
    simp only [RepVs] at h
    obtain ⟨v, r, rfl, h2, h3⟩ := h
    cases i with
    | zero => simp only [List.set_cons_zero, RepVs]; exact ⟨w, r, rfl, hc, h3⟩
    | succ i => simp only [List.set_cons_succ, RepVs]; exact ⟨v, r.set i w, rfl, h2, RepVs.set h3 hc⟩
theorem RepVs.append {M : Mem} {ι : Env} : ∀ {cs : List V} {vs : List Value} {ds : List V} {us : List Value}, RepVs M ι cs vs → RepVs M ι ds us → RepVs M ι (cs ++ ds) (vs ++ us)
  | [], _, _, _, h, k => by simp only [RepVs] at h; subst h; simpa using k
  | x :: cs, l, _, _, h, k => by
    simp only [RepVs] at h
    obtain ⟨v, r, rfl, h2, h3⟩ := h
    simp only [List.cons_append, RepVs]
    exact ⟨v, _, rfl, h2, RepVs.append h3 k⟩
theorem RepVs.take {M : Mem} {ι : Env} : ∀ {cs : List V} {vs : List Value} (n : Nat), RepVs M ι cs vs → RepVs M ι (cs.take n) (vs.take n)
  | [], _, _, h => by simp only [RepVs] at h; subst h; simp [RepVs]
  | x :: cs, l, n, h => by
    simp only [RepVs] at h
    obtain ⟨v, r, rfl, h2, h3⟩ := h
    cases n with
    | zero => simp [RepVs]
    | succ n => simp only [List.take_succ_cons, RepVs]; exact ⟨v, _, rfl, h2, RepVs.take n h3⟩
theorem RepVs.drop {M : Mem} {ι : Env} : ∀ {cs : List V} {vs : List Value} (n : Nat), RepVs M ι cs vs → RepVs M ι (cs.drop n) (vs.drop n)
  | [], _, _, h => by simp only [RepVs] at h; subst h; simp [RepVs]
  | x :: cs, l, n, h => by
    simp only [RepVs] at h
    obtain ⟨v, r, rfl, h2, h3⟩ := h
    cases n with
    | zero => simp only [List.drop_zero, RepVs]; exact ⟨v, r, rfl, h2, h3⟩
    | succ n => simp only [List.drop_succ_cons]; exact RepVs.drop n h3
theorem add_add {ad : Addr} (hs : ad.spot = none) (i j : Nat) : (ad.add i).add j = ad.add (i + j) := by
  cases ad; simp only [Addr.add] at *
  by_cases hi : i = 0 <;> by_cases hj : j = 0 <;> simp_all [Nat.add_assoc]
theorem add_spot {ad : Addr} (hs : ad.spot = none) (i : Nat) : (ad.add i).spot = none := by
  simp only [Addr.add]; split <;> simp_all
theorem add_block (ad : Addr) (i : Nat) : (ad.add i).block = ad.block := by simp only [Addr.add]; split <;> rfl
/-- A row in memory, read. -/
theorem RepRow.vs {M : Mem} {ι : Env} : ∀ {ds : List D} {ad : Addr}, ad.spot = none → RepRow M ds ad → ∃ vs : List Value, (∀ j v, vs[j]? = some v → M (ad.add j) = some v) ∧ RepVs M ι (ds.map V.d) vs ∧ ∀ x ∈ vs, x.oneCell' = true
  | [], _, _, _ => ⟨[], by simp, by simp [RepVs], by simp⟩
  | d :: ds, ad, hs, h => by
    simp only [RepRow] at h
    obtain ⟨⟨c, h1, h2⟩, h3⟩ := h
    have hs' : (ad.add 1).spot = none := by simp [Addr.add]
    obtain ⟨vs, k1, k2, k3⟩ := RepRow.vs (ι := ι) hs' h3
    refine ⟨c :: vs, fun j v hj => ?_, ?_, ?_⟩
    · cases j with
      | zero => simp at hj; subst hj; simpa [Addr.add] using h1
      | succ j =>
        simp at hj
        have := k1 j v hj
        rwa [add_add hs, Nat.add_comm] at this
    · simp only [List.map_cons, RepVs, RepV]; exact ⟨c, vs, rfl, h2, k2⟩
    · intro x hx
      rcases List.mem_cons.1 hx with rfl | hx
      · exact h2.one
      · exact k3 x hx
theorem RepRow.app {M : Mem} : ∀ {ds es : List D} {ad : Addr}, ad.spot = none → (RepRow M (ds ++ es) ad ↔ RepRow M ds ad ∧ RepRow M es (ad.add ds.length))
  | [], es, ad, _ => by simp [RepRow, Addr.add]
  | d :: ds, es, ad, hs => by
    simp only [List.cons_append, RepRow]
    rw [RepRow.app (add_spot hs 1), add_add hs]
    simp only [List.length_cons, Nat.add_comm 1]
    constructor
    · rintro ⟨a, b, c⟩; exact ⟨⟨a, b⟩, c⟩
    · rintro ⟨⟨a, b⟩, c⟩; exact ⟨a, b, c⟩
theorem RepRows.app {M : Mem} {sz : Nat} : ∀ {es fs : List (List D)} {ad : Addr}, ad.spot = none → (∀ e ∈ es, e.length = sz) → (RepRows M (es ++ fs) ad ↔ RepRows M es ad ∧ RepRows M fs (ad.add (es.length * sz)))
  | [], fs, ad, _, _ => by simp [RepRows, Addr.add]
  | e :: es, fs, ad, hs, h => by
    simp only [List.cons_append, RepRows]
    have he : e.length = sz := h e (by simp)
    rw [RepRows.app (add_spot hs _) (fun e he => h e (by simp [he])), add_add hs, he]
    have : sz + es.length * sz = (e :: es).length * sz := by simp [Nat.add_mul, Nat.add_comm]
    rw [this]
    constructor
    · rintro ⟨a, b, c⟩; exact ⟨⟨a, b⟩, c⟩
    · rintro ⟨⟨a, b⟩, c⟩; exact ⟨a, b, c⟩
theorem RepRows.get {M : Mem} {sz : Nat} : ∀ {es : List (List D)} {ad : Addr} {i : Nat} {e : List D}, ad.spot = none → (∀ e ∈ es, e.length = sz) → RepRows M es ad → es[i]? = some e → RepRow M e (ad.add (i * sz))
  | [], _, _, _, _, _, _, h => by simp at h
  | x :: es, ad, i, e, hs, hz, h, hi => by
    simp only [RepRows] at h
    cases i with
    | zero => simp at hi; subst hi; simpa [Addr.add] using h.1
    | succ i =>
      simp at hi
      have := RepRows.get (add_spot hs _) (fun e he => hz e (by simp [he])) h.2 hi
      rw [add_add hs, hz x (by simp)] at this
      have e2 : sz + i * sz = (i + 1) * sz := by simp [Nat.add_mul, Nat.add_comm]
      rwa [e2] at this
/-- Cells that lie in memory are a row. -/
theorem RepRow.of {M : Mem} : ∀ {ds : List D} {vs : List Value} {ad : Addr} {ι : Env}, ad.spot = none → RepVs M ι (ds.map V.d) vs → (∀ j v, vs[j]? = some v → M (ad.add j) = some v) → RepRow M ds ad
  | [], _, _, _, _, _, _ => by simp [RepRow]
  | d :: ds, l, ad, ι, hs, h, hm => by
    simp only [List.map_cons, RepVs, RepV] at h
    obtain ⟨v, r, rfl, h2, h3⟩ := h
    simp only [RepRow]
    refine ⟨⟨v, by simpa [Addr.add] using hm 0 v (by simp), h2⟩, RepRow.of (add_spot hs 1) h3 fun j u hj => ?_⟩
    rw [add_add hs, Nat.add_comm]
    exact hm (j + 1) u (by simpa using hj)
end Go.AM

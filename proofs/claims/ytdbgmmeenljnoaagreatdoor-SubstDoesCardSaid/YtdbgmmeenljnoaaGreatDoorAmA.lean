/-
  The abstract values of a walk: what a cell or a temporary holds, said by plain data, and what that means in memory.
  The abstract store of a walk: labelled objects, and the one law by which a step of the machine turns them.
  Regions: the operations of a region, met in the order of the text, in whatever order the machine runs them.
-/
import Derived.WalkKit
import Derived.KernelRfl
import Derived.Orders
set_option linter.unusedVariables false
set_option linter.unusedSimpArgs false
namespace Go.AM
open Go Go.RowKit

/-- What is known to lie in memory and never turns again. -/
abbrev Mem := Addr → Option Value

/-- Plain data, one cell each; a slice has elements of some cells. -/
inductive D where
  | bool (b : Bool)
  | int (k : IntKind) (n : Int)
  | str (s : ByteArray)
  | slice (es : List (List D))
  | nils
  | fn (f : FuncId)
  | nilFunc
  | nilPtr
  | nilMap
  | nilIface
  deriving Inhabited

mutual
/-- A value is what a datum says. -/
def RepD (M : Mem) : D → Value → Prop
  | .bool b, v => v = .bool b
  | .int k n, v => v = .int k n
  | .str s, v => v = .string s
  | .slice es, v => ∃ a c sz, v = .slice a es.length c ∧ es.length ≤ c ∧ es.length ≤ maxLen ∧ (∀ e ∈ es, e.length = sz) ∧ (es ≠ [] → ∃ ad : Addr, a = some ad ∧ ad.spot = none ∧ RepRows M es ad)
  | .nils, v => v = .slice none 0 0
  | .fn f, v => v = .func (.func f) #[] #[]
  | .nilFunc, v => v = .nilFunc
  | .nilPtr, v => v = .pointer none
  | .nilMap, v => v = .map none
  | .nilIface, v => v = .nilIface
def RepRows (M : Mem) : List (List D) → Addr → Prop
  | [], _ => True
  | e :: es, ad => RepRow M e ad ∧ RepRows M es (ad.add e.length)
def RepRow (M : Mem) : List D → Addr → Prop
  | [], _ => True
  | d :: ds, ad => (∃ c, M ad = some c ∧ RepD M d c) ∧ RepRow M ds (ad.add 1)
end

/-- A label is bound to a block: one of cells, one that is appended to, one of a map. -/
inductive Tag where | cells | row | map
  deriving DecidableEq
structure Bind where
  tag : Tag
  blk : Option Nat
  cap : Nat
  n : Nat
abbrev Env := Nat → Option Bind

/-- What a temporary or a cell holds. -/
inductive V where
  | any
  | d (x : D)
  | full (es : List (List D))
  | ptr (l : Nat) (off : Nat)
  | cptr (cs : List D)
  | own (es : List (List D)) (l : Nat)
  | clo (f : FuncId) (caps : List V)
  | map (l : Nat)
  | agg (cs : List V)
  | tup (vs : List V)
  | arr (n l : Nat)
  | aptr (n l sz i off : Nat)
  | val (v : Value)
  deriving Inhabited

mutual
def RepV (M : Mem) (ι : Env) : V → Value → Prop
  | .any, _ => True
  | .d x, v => RepD M x v
  | .full es, v => RepD M (.slice es) v ∧ ∃ a, v = .slice a es.length es.length
  | .ptr l off, v => ∃ bd b, ι l = some bd ∧ bd.tag = .cells ∧ bd.blk = some b ∧ v = .pointer (some ⟨b, off, none⟩)
  | .cptr cs, v => ∃ ad : Addr, v = .pointer (some ad) ∧ ad.spot = none ∧ RepRow M cs ad
  | .own es l, v => RepD M (.slice es) v ∧ ∃ bd, ι l = some bd ∧ bd.tag = .row ∧ es.length ≤ bd.n ∧
      (bd.n = es.length → match bd.blk with
        | none => ∃ a, v = .slice a es.length es.length
        | some b => v = .slice (some ⟨b, 0, none⟩) es.length bd.cap)
  | .clo f cs, v => ∃ vs : List Value, v = .func (.func f) #[] vs.toArray ∧ RepVs M ι cs vs
  | .map l, v => ∃ bd b, ι l = some bd ∧ bd.tag = .map ∧ bd.blk = some b ∧ v = .map (some b)
  | .agg cs, v => ∃ vs : List Value, v = .agg vs.toArray ∧ RepVs M ι cs vs ∧ ∀ x ∈ vs, x.oneCell' = true
  | .tup cs, v => ∃ vs : List Value, v = .tuple vs.toArray ∧ RepVs M ι cs vs
  | .arr n l, v => (∃ a m c, v = .slice a m c) ∧ ∃ bd, ι l = some bd ∧ bd.tag = .row ∧ n ≤ bd.n ∧
      (bd.n = n → match bd.blk with
        | none => v = .slice none 0 0
        | some b => v = .slice (some ⟨b, 0, none⟩) n bd.cap)
  | .aptr n l sz i off, v => (∃ ad, v = .pointer ad) ∧ ∃ bd, ι l = some bd ∧ bd.tag = .row ∧ n ≤ bd.n ∧ (bd.n = n → ∃ b, bd.blk = some b ∧ v = .pointer (some ⟨b, i * sz + off, none⟩))
  | .val u, v => v = u
def RepVs (M : Mem) (ι : Env) : List V → List Value → Prop
  | [], l => l = []
  | c :: cs, l => ∃ v r, l = v :: r ∧ RepV M ι c v ∧ RepVs M ι cs r
end

/-- What is known grows; a label keeps its block, but for a row that was appended to. -/
structure Grow (M : Mem) (ι : Env) (M' : Mem) (ι' : Env) : Prop where
  mem : ∀ a v, M a = some v → M' a = some v
  env : ∀ l bd, ι l = some bd → ∃ bd', ι' l = some bd' ∧ (bd' = bd ∨ (bd.tag = .row ∧ bd'.tag = .row ∧ bd.n < bd'.n))

theorem Grow.refl (M : Mem) (ι : Env) : Grow M ι M ι := ⟨fun _ _ h => h, fun _ bd h => ⟨bd, h, .inl rfl⟩⟩
theorem Grow.trans {M ι M' ι' M'' ι''} (h : Grow M ι M' ι') (k : Grow M' ι' M'' ι'') : Grow M ι M'' ι'' :=
  ⟨fun a v hv => k.mem a v (h.mem a v hv), fun l bd hl => by
    obtain ⟨b1, h1, e1⟩ := h.env l bd hl
    obtain ⟨b2, h2, e2⟩ := k.env l b1 h1
    refine ⟨b2, h2, ?_⟩
    rcases e1 with rfl | ⟨t1, t2, t3⟩
    · exact e2
    · rcases e2 with rfl | ⟨s1, s2, s3⟩
      · exact .inr ⟨t1, t2, t3⟩
      · exact .inr ⟨t1, s2, by omega⟩⟩

mutual
theorem RepD.grow {M M' : Mem} (h : ∀ a v, M a = some v → M' a = some v) : ∀ (x : D) (v : Value), RepD M x v → RepD M' x v
  | .bool _, _, hv => hv
  | .int _ _, _, hv => hv
  | .str _, _, hv => hv
  | .nils, _, hv => hv
  | .fn _, _, hv => hv
  | .nilFunc, _, hv => hv
  | .nilPtr, _, hv => hv
  | .nilMap, _, hv => hv
  | .nilIface, _, hv => hv
  | .slice es, v, hv => by
    simp only [RepD] at hv ⊢
    obtain ⟨a, c, sz, h1, h2, h3, h4, h5⟩ := hv
    exact ⟨a, c, sz, h1, h2, h3, h4, fun hn => by
      obtain ⟨ad, e1, e2, e3⟩ := h5 hn
      exact ⟨ad, e1, e2, RepRows.grow h es ad e3⟩⟩
theorem RepRows.grow {M M' : Mem} (h : ∀ a v, M a = some v → M' a = some v) : ∀ (es : List (List D)) (ad : Addr), RepRows M es ad → RepRows M' es ad
  | [], _, _ => by simp only [RepRows]
  | e :: es, ad, hv => by
    simp only [RepRows] at hv ⊢
    exact ⟨RepRow.grow h e ad hv.1, RepRows.grow h es _ hv.2⟩
theorem RepRow.grow {M M' : Mem} (h : ∀ a v, M a = some v → M' a = some v) : ∀ (ds : List D) (ad : Addr), RepRow M ds ad → RepRow M' ds ad
  | [], _, _ => by simp only [RepRow]
  | d :: ds, ad, hv => by
    simp only [RepRow] at hv ⊢
    obtain ⟨⟨c, h1, h2⟩, h3⟩ := hv
    exact ⟨⟨c, h _ _ h1, RepD.grow h d c h2⟩, RepRow.grow h ds _ h3⟩
end

mutual
theorem RepV.grow {M M' : Mem} {ι ι' : Env} (h : Grow M ι M' ι') : ∀ (x : V) (v : Value), RepV M ι x v → RepV M' ι' x v
  | .any, _, _ => by simp only [RepV]
  | .d x, v, hv => by simp only [RepV] at hv ⊢; exact RepD.grow h.mem x v hv
  | .full es, v, hv => by simp only [RepV] at hv ⊢; exact ⟨RepD.grow h.mem _ v hv.1, hv.2⟩
  | .cptr cs, v, hv => by
    simp only [RepV] at hv ⊢
    obtain ⟨ad, h1, h2, h3⟩ := hv
    exact ⟨ad, h1, h2, RepRow.grow h.mem cs ad h3⟩
  | .ptr l off, v, hv => by
    simp only [RepV] at hv ⊢
    obtain ⟨bd, b, h1, h2, h3, h4⟩ := hv
    obtain ⟨bd', h5, h6⟩ := h.env l bd h1
    rcases h6 with rfl | ⟨h6, _⟩
    · exact ⟨bd', b, h5, h2, h3, h4⟩
    · rw [h2] at h6; cases h6
  | .map l, v, hv => by
    simp only [RepV] at hv ⊢
    obtain ⟨bd, b, h1, h2, h3, h4⟩ := hv
    obtain ⟨bd', h5, h6⟩ := h.env l bd h1
    rcases h6 with rfl | ⟨h6, _⟩
    · exact ⟨bd', b, h5, h2, h3, h4⟩
    · rw [h2] at h6; cases h6
  | .own es l, v, hv => by
    simp only [RepV] at hv ⊢
    obtain ⟨h0, bd, h1, h2, h3, h4⟩ := hv
    obtain ⟨bd', h5, h6⟩ := h.env l bd h1
    refine ⟨RepD.grow h.mem _ v h0, bd', h5, ?_⟩
    rcases h6 with rfl | ⟨_, h7, h8⟩
    · exact ⟨h2, h3, h4⟩
    · exact ⟨h7, by omega, fun e => by omega⟩
  | .clo f cs, v, hv => by
    simp only [RepV] at hv ⊢
    obtain ⟨vs, h1, h2⟩ := hv
    exact ⟨vs, h1, RepVs.grow h cs vs h2⟩
  | .agg cs, v, hv => by
    simp only [RepV] at hv ⊢
    obtain ⟨vs, h1, h2, h3⟩ := hv
    exact ⟨vs, h1, RepVs.grow h cs vs h2, h3⟩
  | .tup cs, v, hv => by
    simp only [RepV] at hv ⊢
    obtain ⟨vs, h1, h2⟩ := hv
    exact ⟨vs, h1, RepVs.grow h cs vs h2⟩
  | .arr n l, v, hv => by
    simp only [RepV] at hv ⊢
    obtain ⟨h0, bd, h1, h2, h3, h4⟩ := hv
    obtain ⟨bd', h5, h6⟩ := h.env l bd h1
    refine ⟨h0, bd', h5, ?_⟩
    rcases h6 with rfl | ⟨_, h7, h8⟩
    · exact ⟨h2, h3, h4⟩
    · exact ⟨h7, by omega, fun e => by omega⟩
  | .aptr n l sz i off, v, hv => by
    simp only [RepV] at hv ⊢
    obtain ⟨h0, bd, h1, h2, h3, h4⟩ := hv
    obtain ⟨bd', h5, h6⟩ := h.env l bd h1
    refine ⟨h0, bd', h5, ?_⟩
    rcases h6 with rfl | ⟨_, h7, h8⟩
    · exact ⟨h2, h3, h4⟩
    · exact ⟨h7, by omega, fun e => by omega⟩
  | .val u, v, hv => by simp only [RepV] at hv ⊢; exact hv
theorem RepVs.grow {M M' : Mem} {ι ι' : Env} (h : Grow M ι M' ι') : ∀ (xs : List V) (l : List Value), RepVs M ι xs l → RepVs M' ι' xs l
  | [], _, hv => by simp only [RepVs] at hv ⊢; exact hv
  | c :: cs, l, hv => by
    simp only [RepVs] at hv ⊢
    obtain ⟨v, r, h1, h2, h3⟩ := hv
    exact ⟨v, r, h1, RepV.grow h c v h2, RepVs.grow h cs r h3⟩
end

/-- Every datum is one cell. -/
theorem RepD.one {M : Mem} {x : D} {v : Value} (h : RepD M x v) : v.oneCell' = true := by
  cases x <;> simp only [RepD] at h
  case slice => obtain ⟨_, _, _, rfl, _⟩ := h; rfl
  all_goals (subst h; rfl)

mutual
/-- All labels are in a set. -/
def V.on (S : List Nat) : V → Bool
  | .ptr l _ => S.contains l
  | .own _ l => S.contains l
  | .map l => S.contains l
  | .clo _ cs => V.onAll S cs
  | .agg cs => V.onAll S cs
  | .tup cs => V.onAll S cs
  | .any => true
  | .d _ => true
  | .full _ => true
  | .cptr _ => true
  | .arr _ l => S.contains l
  | .aptr _ l _ _ _ => S.contains l
  | .val _ => true
def V.onAll (S : List Nat) : List V → Bool
  | [] => true
  | c :: cs => V.on S c && V.onAll S cs
end

mutual
/-- What is held depends on its labels alone. -/
theorem RepV.on {M : Mem} {ι ι' : Env} {S : List Nat} (h : ∀ l, S.contains l = true → ι' l = ι l) : ∀ (x : V) (v : Value), x.on S = true → RepV M ι x v → RepV M ι' x v
  | .any, _, _, _ => by simp only [RepV]
  | .d x, v, _, hv => by simpa only [RepV] using hv
  | .full es, v, _, hv => by simpa only [RepV] using hv
  | .cptr cs, v, _, hv => by simpa only [RepV] using hv
  | .ptr l off, v, hs, hv => by simp only [V.on] at hs; simp only [RepV] at hv ⊢; rw [h l hs]; exact hv
  | .map l, v, hs, hv => by simp only [V.on] at hs; simp only [RepV] at hv ⊢; rw [h l hs]; exact hv
  | .own es l, v, hs, hv => by simp only [V.on] at hs; simp only [RepV] at hv ⊢; rw [h l hs]; exact hv
  | .arr n l, v, hs, hv => by simp only [V.on] at hs; simp only [RepV] at hv ⊢; rw [h l hs]; exact hv
  | .aptr n l sz i off, v, hs, hv => by simp only [V.on] at hs; simp only [RepV] at hv ⊢; rw [h l hs]; exact hv
  | .val u, v, _, hv => by simpa only [RepV] using hv
  | .clo f cs, v, hs, hv => by
    simp only [V.on] at hs; simp only [RepV] at hv ⊢
    obtain ⟨vs, h1, h2⟩ := hv
    exact ⟨vs, h1, RepVs.on h cs vs hs h2⟩
  | .agg cs, v, hs, hv => by
    simp only [V.on] at hs; simp only [RepV] at hv ⊢
    obtain ⟨vs, h1, h2, h3⟩ := hv
    exact ⟨vs, h1, RepVs.on h cs vs hs h2, h3⟩
  | .tup cs, v, hs, hv => by
    simp only [V.on] at hs; simp only [RepV] at hv ⊢
    obtain ⟨vs, h1, h2⟩ := hv
    exact ⟨vs, h1, RepVs.on h cs vs hs h2⟩
theorem RepVs.on {M : Mem} {ι ι' : Env} {S : List Nat} (h : ∀ l, S.contains l = true → ι' l = ι l) : ∀ (xs : List V) (l : List Value), V.onAll S xs = true → RepVs M ι xs l → RepVs M ι' xs l
  | [], _, _, hv => by simpa only [RepVs] using hv
  | c :: cs, l, hs, hv => by
    simp only [V.onAll, Bool.and_eq_true] at hs
    simp only [RepVs] at hv ⊢
    obtain ⟨v, r, h1, h2, h3⟩ := hv
    exact ⟨v, r, h1, RepV.on h c v hs.1 h2, RepVs.on h cs r hs.2 h3⟩
end

theorem RepVs.length {M : Mem} {ι : Env} : ∀ {cs : List V} {vs : List Value}, RepVs M ι cs vs → vs.length = cs.length
  | [], _, h => by simp only [RepVs] at h; subst h; rfl
  | c :: cs, l, h => by
    simp only [RepVs] at h
    obtain ⟨v, r, rfl, _, h3⟩ := h
    simp [RepVs.length h3]
theorem RepVs.get {M : Mem} {ι : Env} : ∀ {cs : List V} {vs : List Value} {i : Nat} {c : V}, RepVs M ι cs vs → cs[i]? = some c → ∃ v, vs[i]? = some v ∧ RepV M ι c v
  | [], _, _, _, _, hc => by simp at hc
  | x :: cs, l, i, c, h, hc => by
    simp only [RepVs] at h
    obtain ⟨v, r, rfl, h2, h3⟩ := h
    cases i with
    | zero => simp at hc; subst hc; exact ⟨v, rfl, h2⟩
    | succ i => simp at hc; simpa using RepVs.get h3 hc
theorem RepVs.set {M : Mem} {ι : Env} : ∀ {cs : List V} {vs : List Value} {i : Nat} {c : V} {v : Value}, RepVs M ι cs vs → RepV M ι c v → RepVs M ι (cs.set i c) (vs.set i v)
  | [], _, _, _, _, h, _ => by simpa [RepVs] using h
  | x :: cs, l, i, c, w, h, hc => by
    simp only [RepVs] at h
    obtain ⟨v, r, rfl, h2, h3⟩ := h
    cases i with
    | zero => simp only [List.set_cons_zero, RepVs]; exact ⟨w, r, rfl, hc, h3⟩
    | succ i => simp only [List.set_cons_succ, RepVs]; exact ⟨v, r.set i w, rfl, h2, RepVs.set h3 hc⟩
theorem RepVs.append {M : Mem} {ι : Env} : ∀ {cs : List V} {vs : List Value} {ds : List V} {us : List Value}, RepVs M ι cs vs → RepVs M ι ds us → RepVs M ι (cs ++ ds) (vs ++ us)
  | [], _, _, _, h, k => by simp only [RepVs] at h; subst h; simpa using k
  | x :: cs, l, _, _, h, k => by
    simp only [RepVs] at h
    obtain ⟨v, r, rfl, h2, h3⟩ := h
    simp only [List.cons_append, RepVs]
    exact ⟨v, _, rfl, h2, RepVs.append h3 k⟩
theorem RepVs.take {M : Mem} {ι : Env} : ∀ {cs : List V} {vs : List Value} (n : Nat), RepVs M ι cs vs → RepVs M ι (cs.take n) (vs.take n)
  | [], _, _, h => by simp only [RepVs] at h; subst h; simp [RepVs]
  | x :: cs, l, n, h => by
    simp only [RepVs] at h
    obtain ⟨v, r, rfl, h2, h3⟩ := h
    cases n with
    | zero => simp [RepVs]
    | succ n => simp only [List.take_succ_cons, RepVs]; exact ⟨v, _, rfl, h2, RepVs.take n h3⟩
theorem RepVs.drop {M : Mem} {ι : Env} : ∀ {cs : List V} {vs : List Value} (n : Nat), RepVs M ι cs vs → RepVs M ι (cs.drop n) (vs.drop n)
  | [], _, _, h => by simp only [RepVs] at h; subst h; simp [RepVs]
  | x :: cs, l, n, h => by
    simp only [RepVs] at h
    obtain ⟨v, r, rfl, h2, h3⟩ := h
    cases n with
    | zero => simp only [List.drop_zero, RepVs]; exact ⟨v, r, rfl, h2, h3⟩
    | succ n => simp only [List.drop_succ_cons]; exact RepVs.drop n h3
theorem add_add {ad : Addr} (hs : ad.spot = none) (i j : Nat) : (ad.add i).add j = ad.add (i + j) := by
  cases ad; simp only [Addr.add] at *
  by_cases hi : i = 0 <;> by_cases hj : j = 0 <;> simp_all [Nat.add_assoc]
theorem add_spot {ad : Addr} (hs : ad.spot = none) (i : Nat) : (ad.add i).spot = none := by
  simp only [Addr.add]; split <;> simp_all
theorem add_block (ad : Addr) (i : Nat) : (ad.add i).block = ad.block := by simp only [Addr.add]; split <;> rfl
/-- A row in memory, read. -/
theorem RepRow.vs {M : Mem} {ι : Env} : ∀ {ds : List D} {ad : Addr}, ad.spot = none → RepRow M ds ad → ∃ vs : List Value, (∀ j v, vs[j]? = some v → M (ad.add j) = some v) ∧ RepVs M ι (ds.map V.d) vs ∧ ∀ x ∈ vs, x.oneCell' = true
  | [], _, _, _ => ⟨[], by simp, by simp [RepVs], by simp⟩
  | d :: ds, ad, hs, h => by
    simp only [RepRow] at h
    obtain ⟨⟨c, h1, h2⟩, h3⟩ := h
    have hs' : (ad.add 1).spot = none := by simp [Addr.add]
    obtain ⟨vs, k1, k2, k3⟩ := RepRow.vs (ι := ι) hs' h3
    refine ⟨c :: vs, fun j v hj => ?_, ?_, ?_⟩
    · cases j with
      | zero => simp at hj; subst hj; simpa [Addr.add] using h1
      | succ j =>
        simp at hj
        have := k1 j v hj
        rwa [add_add hs, Nat.add_comm] at this
    · simp only [List.map_cons, RepVs, RepV]; exact ⟨c, vs, rfl, h2, k2⟩
    · intro x hx
      rcases List.mem_cons.1 hx with rfl | hx
      · exact h2.one
      · exact k3 x hx
theorem RepRow.app {M : Mem} : ∀ {ds es : List D} {ad : Addr}, ad.spot = none → (RepRow M (ds ++ es) ad ↔ RepRow M ds ad ∧ RepRow M es (ad.add ds.length))
  | [], es, ad, _ => by simp [RepRow, Addr.add]
  | d :: ds, es, ad, hs => by
    simp only [List.cons_append, RepRow]
    rw [RepRow.app (add_spot hs 1), add_add hs]
    simp only [List.length_cons, Nat.add_comm 1]
    constructor
    · rintro ⟨a, b, c⟩; exact ⟨⟨a, b⟩, c⟩
    · rintro ⟨⟨a, b⟩, c⟩; exact ⟨a, b, c⟩
theorem RepRows.app {M : Mem} {sz : Nat} : ∀ {es fs : List (List D)} {ad : Addr}, ad.spot = none → (∀ e ∈ es, e.length = sz) → (RepRows M (es ++ fs) ad ↔ RepRows M es ad ∧ RepRows M fs (ad.add (es.length * sz)))
  | [], fs, ad, _, _ => by simp [RepRows, Addr.add]
  | e :: es, fs, ad, hs, h => by
    simp only [List.cons_append, RepRows]
    have he : e.length = sz := h e (by simp)
    rw [RepRows.app (add_spot hs _) (fun e he => h e (by simp [he])), add_add hs, he]
    have : sz + es.length * sz = (e :: es).length * sz := by simp [Nat.add_mul, Nat.add_comm]
    rw [this]
    constructor
    · rintro ⟨a, b, c⟩; exact ⟨⟨a, b⟩, c⟩
    · rintro ⟨⟨a, b⟩, c⟩; exact ⟨a, b, c⟩
theorem RepRows.get {M : Mem} {sz : Nat} : ∀ {es : List (List D)} {ad : Addr} {i : Nat} {e : List D}, ad.spot = none → (∀ e ∈ es, e.length = sz) → RepRows M es ad → es[i]? = some e → RepRow M e (ad.add (i * sz))
  | [], _, _, _, _, _, _, h => by simp at h
  | x :: es, ad, i, e, hs, hz, h, hi => by
    simp only [RepRows] at h
    cases i with
    | zero => simp at hi; subst hi; simpa [Addr.add] using h.1
    | succ i =>
      simp at hi
      have := RepRows.get (add_spot hs _) (fun e he => hz e (by simp [he])) h.2 hi
      rw [add_add hs, hz x (by simp)] at this
      have e2 : sz + i * sz = (i + 1) * sz := by simp [Nat.add_mul, Nat.add_comm]
      rwa [e2] at this
/-- Cells that lie in memory are a row. -/
theorem RepRow.of {M : Mem} : ∀ {ds : List D} {vs : List Value} {ad : Addr} {ι : Env}, ad.spot = none → RepVs M ι (ds.map V.d) vs → (∀ j v, vs[j]? = some v → M (ad.add j) = some v) → RepRow M ds ad
  | [], _, _, _, _, _, _ => by simp [RepRow]
  | d :: ds, l, ad, ι, hs, h, hm => by
    simp only [List.map_cons, RepVs, RepV] at h
    obtain ⟨v, r, rfl, h2, h3⟩ := h
    simp only [RepRow]
    refine ⟨⟨v, by simpa [Addr.add] using hm 0 v (by simp), h2⟩, RepRow.of (add_spot hs 1) h3 fun j u hj => ?_⟩
    rw [add_add hs, Nat.add_comm]
    exact hm (j + 1) u (by simpa using hj)
end Go.AM
set_option linter.unusedVariables false
set_option linter.unusedSimpArgs false
namespace Go.AM
open Go Go.RowKit

/- An object of the call's own: cells, a row that is appended to (its first n elements never turn), a map. -/
/-- A map's entries, in the order in which they came; 'kc' says of what kind the keys are. -/
structure MapC where
  kc : Nat
  es : List (D × V)
def kcOk : Nat → D → Bool
  | 1, .int .i64 _ => true
  | 2, .bool _ => true
  | 3, .str _ => true
  | _, _ => false
inductive O where
  | cells (vs : List V) (t : TypeId)
  | row (n sz : Nat) (t : TypeId)
  | map (es : MapC)
  | arr (es : List (List D)) (sz : Nat) (t : TypeId)
  | raw (q : Option Nat) (tg : Tag) (ob : Obj)

def RepEs (M : Mem) : List (D × V) → List MapEntry → Prop
  | [], l => l = []
  | (k, x) :: es, l => ∃ e r, l = e :: r ∧ RepD M k e.key ∧ x.on [] = true ∧ RepV M (fun _ => none) x e.val ∧ RepEs M es r
def RepMap (M : Mem) (m : MapC) (l : List MapEntry) : Prop := (∀ p ∈ m.es, kcOk m.kc p.1 = true) ∧ RepEs M m.es l

theorem RepEs.grow {M M' : Mem} (h : ∀ a v, M a = some v → M' a = some v) : ∀ {es : List (D × V)} {l : List MapEntry}, RepEs M es l → RepEs M' es l
  | [], _, hv => hv
  | (k, x) :: es, l, hv => by
    obtain ⟨e, r, h1, h2, h3, h4, h5⟩ := hv
    exact ⟨e, r, h1, RepD.grow h _ _ h2, h3, RepV.grow ⟨h, fun l bd hl => by cases hl⟩ _ _ h4, RepEs.grow h h5⟩
theorem RepMap.grow {M M' : Mem} (h : ∀ a v, M a = some v → M' a = some v) {es : MapC} {l : List MapEntry} (k : RepMap M es l) : RepMap M' es l := ⟨k.1, RepEs.grow h k.2⟩

/-- The entries of a map bear different numbers, all below its clock. -/
def BornOk (es : List MapEntry) (clock : Nat) : Prop := (es.map (·.born)).Nodup ∧ ∀ e ∈ es, e.born < clock

def ORep (M : Mem) (ι : Env) (w : World) (bd : Bind) : O → Prop
  | .cells vs t => bd.tag = .cells ∧ ∃ (b : Nat) (cs : List Value), bd.blk = some b ∧ w.heap[b]? = some (.cells cs.toArray t (0, 0)) ∧ RepVs M ι vs cs ∧ ∀ x ∈ cs, x.oneCell' = true
  | .row n sz t => bd.tag = .row ∧ bd.n = n ∧ n ≤ bd.cap ∧ ∀ b, bd.blk = some b → ∃ cs : Array Value, w.heap[b]? = some (.cells cs t (0, 0)) ∧ cs.size = bd.cap * sz
  | .map es => bd.tag = .map ∧ ∃ (b : Nat) (ms : List MapEntry) (clock : Nat), bd.blk = some b ∧ w.heap[b]? = some (.map ms.toArray clock) ∧ RepMap M es ms ∧ BornOk ms clock
  | .arr es sz t => bd.tag = .row ∧ bd.n = es.length ∧ es.length ≤ bd.cap ∧ es.length ≤ maxLen ∧ (∀ e ∈ es, e.length = sz) ∧ (bd.blk = none → es = []) ∧
      ∀ b, bd.blk = some b → ∃ vs rest : List Value, w.heap[b]? = some (.cells (vs ++ rest).toArray t (0, 0)) ∧ vs.length = es.length * sz ∧ (vs ++ rest).length = bd.cap * sz ∧ RepVs M (fun _ => none) (es.flatten.map V.d) vs
  | .raw q tg ob => bd.tag = tg ∧ ∃ b, bd.blk = some b ∧ (∀ c, q = some c → c = b) ∧ w.heap[b]? = some ob

def O.holds : O → Nat → Prop
  | .cells _ _, _ => False
  | .row n sz _, off => off < n * sz
  | .map _, _ => False
  | .arr _ _ _, _ => False
  | .raw _ _ _, _ => False

abbrev Sto := Nat → Option O

/-- Where a call began: what was known, the world, and the blocks that were handed to it to be turned. -/
structure Entry where
  M : Mem
  w : World
  bs : Nat → Prop
def Entry.blk (E : Entry) (k : Nat) : Prop := E.w.heap.size ≤ k ∨ E.bs k

structure Inv (E : Entry) (M : Mem) (ι : Env) (H : Sto) (w : World) : Prop where
  mem : ∀ a v, M a = some v → w.cell? a = some v
  obj : ∀ l o, H l = some o → ∃ bd, ι l = some bd ∧ ORep M ι w bd o
  inj : ∀ l l' o o' bd bd' b, H l = some o → H l' = some o' → ι l = some bd → ι l' = some bd' → bd.blk = some b → bd'.blk = some b → l = l'
  sep : ∀ l o bd b, H l = some o → ι l = some bd → bd.blk = some b → ∀ a v, M a = some v → a.block = b → o.holds a.off
  own : ∀ l o bd b, H l = some o → ι l = some bd → bd.blk = some b → E.blk b
  le : ∀ a v, E.M a = some v → M a = some v
  new : ∀ a v, M a = some v → E.M a = none → E.blk a.block
  size : E.w.heap.size ≤ w.heap.size
  os : w.os = E.w.os
  tape : w.tape = E.w.tape
  output : w.output = E.w.output
  frame : ∀ k, ¬ E.blk k → w.heap[k]? = E.w.heap[k]?

theorem heap_lt {w : World} {b : Nat} {o : Obj} (h : w.heap[b]? = some o) : b < w.heap.size := (Array.getElem?_eq_some_iff.1 h).1
theorem cell_lt {w : World} {a : Addr} {v : Value} (h : w.cell? a = some v) : a.block < w.heap.size := by
  unfold World.cell? at h
  split at h
  · rename_i hb; exact heap_lt hb
  · cases h
theorem cell_spot {w : World} {a : Addr} {v : Value} (h : w.cell? a = some v) : a.spot = none := by
  unfold World.cell? at h
  split at h
  · by_cases hs : a.spot.isSome <;> simp_all
  · cases h

theorem Inv.obj_lt {E M ι H w} (h : Inv E M ι H w) {l o bd b} (ho : H l = some o) (hb : ι l = some bd) (hk : bd.blk = some b) : b < w.heap.size := by
  obtain ⟨bd', e, hr⟩ := h.obj l o ho
  rw [hb] at e; injection e with e; subst e
  cases o with
  | cells vs t => obtain ⟨_, b', cs, e1, e2, _⟩ := hr; rw [hk] at e1; injection e1 with e1; subst e1; exact heap_lt e2
  | row n sz t => obtain ⟨_, _, _, hr⟩ := hr; obtain ⟨cs, e2, _⟩ := hr b hk; exact heap_lt e2
  | map es => obtain ⟨_, b', ms, ck, e1, e2, _⟩ := hr; rw [hk] at e1; injection e1 with e1; subst e1; exact heap_lt e2
  | arr es sz t => obtain ⟨_, _, _, _, _, _, hr⟩ := hr; obtain ⟨vs, rest, e2, _⟩ := hr b hk; exact heap_lt e2
  | raw q tg ob => obtain ⟨_, b', e1, _, e2⟩ := hr; rw [hk] at e1; injection e1 with e1; subst e1; exact heap_lt e2

theorem ORep.keep {M ι w M' ι' w' bd o} (h : ORep M ι w bd o) (hg : Grow M ι M' ι') (hh : ∀ b, bd.blk = some b → w'.heap[b]? = w.heap[b]?) : ORep M' ι' w' bd o := by
  cases o with
  | cells vs t => obtain ⟨h0, b, cs, h1, h2, h3, h4⟩ := h; exact ⟨h0, b, cs, h1, by rw [hh b h1]; exact h2, RepVs.grow hg _ _ h3, h4⟩
  | row n sz t => obtain ⟨h0, h1, h2, h3⟩ := h; exact ⟨h0, h1, h2, fun b hb => by rw [hh b hb]; exact h3 b hb⟩
  | map es => obtain ⟨h0, b, ms, ck, h1, h2, h3, h4⟩ := h; exact ⟨h0, b, ms, ck, h1, by rw [hh b h1]; exact h2, RepMap.grow hg.mem h3, h4⟩
  | arr es sz t =>
    obtain ⟨h0, h1, h2, h3, h4, h5, h6⟩ := h
    exact ⟨h0, h1, h2, h3, h4, h5, fun b hb => by
      obtain ⟨vs, rest, k1, k2, k3, k4⟩ := h6 b hb
      exact ⟨vs, rest, by rw [hh b hb]; exact k1, k2, k3, RepVs.grow ⟨hg.mem, fun l bd hl => by cases hl⟩ _ _ k4⟩⟩
  | raw q tg ob => obtain ⟨h0, b, h1, h2, h3⟩ := h; exact ⟨h0, b, h1, h2, by rw [hh b h1]; exact h3⟩

/-- The one law: a step touches the blocks T (new ones, and those of the labels S) and no other. -/
theorem Inv.upd {E M ι H w} (h : Inv E M ι H w) {M' : Mem} {ι' : Env} {H' : Sto} {w' : World} (S T : Nat → Prop)
    (hg : Grow M ι M' ι')
    (hT : ∀ k, ¬ T k → w'.heap[k]? = w.heap[k]?)
    (hTb : ∀ k, T k → w.heap.size ≤ k ∨ ∃ l o bd, S l ∧ H l = some o ∧ ι l = some bd ∧ bd.blk = some k)
    (hS : ∀ l, ¬ S l → H' l = H l ∧ (∀ o, H l = some o → ι' l = ι l))
    (hO : ∀ l o, S l → H' l = some o → ∃ bd, ι' l = some bd ∧ ORep M' ι' w' bd o ∧ (∀ b, bd.blk = some b → T b ∧ ∀ a v, M' a = some v → a.block = b → o.holds a.off))
    (hI : ∀ l l' o o' bd bd' b, S l → S l' → H' l = some o → H' l' = some o' → ι' l = some bd → ι' l' = some bd' → bd.blk = some b → bd'.blk = some b → l = l')
    (hN : ∀ a v, M' a = some v → M a = none → T a.block)
    (hC : ∀ a v, M' a = some v → T a.block → w'.cell? a = some v)
    (hz : w.heap.size ≤ w'.heap.size) (h1 : w'.os = w.os) (h2 : w'.tape = w.tape) (h3 : w'.output = w.output) :
    Inv E M' ι' H' w' := by
  have hTE : ∀ k, T k → E.blk k := fun k hk => by
    rcases hTb k hk with h' | ⟨l, o, bd, _, e1, e2, e3⟩
    · exact .inl (Nat.le_trans h.size h')
    · exact h.own l o bd k e1 e2 e3
  have hout : ∀ l o bd b, ¬ S l → H l = some o → ι l = some bd → bd.blk = some b → ¬ T b := fun l o bd b hs ho hb hk ht => by
    rcases hTb b ht with h' | ⟨l', o', bd', hs', e1, e2, e3⟩
    · have := h.obj_lt ho hb hk; omega
    · have := h.inj l l' o o' bd bd' b ho e1 hb e2 hk e3
      subst this; exact hs hs'
  have hold : ∀ a v, M' a = some v → ¬ T a.block → M a = some v := fun a v hv ht => by
    cases hm : M a with
    | none => exact absurd (hN a v hv hm) ht
    | some u => have := hg.mem a u hm; rw [hv] at this; injection this with this; subst this; rfl
  constructor
  · intro a v hv
    by_cases ht : T a.block
    · exact hC a v hv ht
    · have := h.mem a v (hold a v hv ht)
      rwa [World.cell?_of_block (w := w) (hT _ ht)]
  · intro l o ho
    by_cases hs : S l
    · obtain ⟨bd, e1, e2, _⟩ := hO l o hs ho; exact ⟨bd, e1, e2⟩
    · obtain ⟨e1, e2⟩ := hS l hs
      rw [e1] at ho
      obtain ⟨bd, e3, e4⟩ := h.obj l o ho
      exact ⟨bd, by rw [e2 o ho]; exact e3, e4.keep hg fun b hb => hT b (hout l o bd b hs ho e3 hb)⟩
  · intro l l' o o' bd bd' b ho ho' hb hb' hk hk'
    by_cases hs : S l <;> by_cases hs' : S l'
    · exact hI l l' o o' bd bd' b hs hs' ho ho' hb hb' hk hk'
    · obtain ⟨bd1, e1, _, e3⟩ := hO l o hs ho
      rw [hb] at e1; injection e1 with e1; subst e1
      obtain ⟨f1, f2⟩ := hS l' hs'
      rw [f1] at ho'; rw [f2 o' ho'] at hb'
      exact absurd (e3 b hk).1 (hout l' o' bd' b hs' ho' hb' hk')
    · obtain ⟨bd1, e1, _, e3⟩ := hO l' o' hs' ho'
      rw [hb'] at e1; injection e1 with e1; subst e1
      obtain ⟨f1, f2⟩ := hS l hs
      rw [f1] at ho; rw [f2 o ho] at hb
      exact absurd (e3 b hk').1 (hout l o bd b hs ho hb hk)
    · obtain ⟨f1, f2⟩ := hS l hs
      obtain ⟨g1, g2⟩ := hS l' hs'
      rw [f1] at ho; rw [g1] at ho'; rw [f2 o ho] at hb; rw [g2 o' ho'] at hb'
      exact h.inj l l' o o' bd bd' b ho ho' hb hb' hk hk'
  · intro l o bd b ho hb hk a v hv hab
    by_cases hs : S l
    · obtain ⟨bd1, e1, _, e3⟩ := hO l o hs ho
      rw [hb] at e1; injection e1 with e1; subst e1
      exact (e3 b hk).2 a v hv hab
    · obtain ⟨f1, f2⟩ := hS l hs
      rw [f1] at ho; rw [f2 o ho] at hb
      have ht := hout l o bd b hs ho hb hk
      exact h.sep l o bd b ho hb hk a v (hold a v hv (by rw [hab]; exact ht)) hab
  · intro l o bd b ho hb hk
    by_cases hs : S l
    · obtain ⟨bd1, e1, _, e3⟩ := hO l o hs ho
      rw [hb] at e1; injection e1 with e1; subst e1
      exact hTE b (e3 b hk).1
    · obtain ⟨f1, f2⟩ := hS l hs
      rw [f1] at ho; rw [f2 o ho] at hb
      exact h.own l o bd b ho hb hk
  · exact fun a v hv => hg.mem a v (h.le a v hv)
  · intro a v hv he
    cases hm : M a with
    | none => exact hTE _ (hN a v hv hm)
    | some u => exact h.new a u hm he
  · exact Nat.le_trans h.size hz
  · exact h1.trans h.os
  · exact h2.trans h.tape
  · exact h3.trans h.output
  · exact fun k hk => (hT k (fun ht => hk (hTE k ht))).trans (h.frame k hk)

/-- A draw turns nothing. -/
theorem Inv.of_heap {E M ι H w w'} (h : Inv E M ι H w) (hh : w'.heap = w.heap) (h1 : w'.os = w.os) (h2 : w'.tape = w.tape) (h3 : w'.output = w.output) : Inv E M ι H w' :=
  h.upd (fun _ => False) (fun _ => False) (Grow.refl _ _) (fun k _ => by rw [hh]) (fun _ h => h.elim) (fun l _ => ⟨rfl, fun _ _ => rfl⟩) (fun _ _ h => h.elim) (fun _ _ _ _ _ _ _ h => h.elim)
    (fun a v hv hn => by rw [hv] at hn; cases hn) (fun _ _ _ h => h.elim) (by rw [hh]; exact Nat.le_refl _) h1 h2 h3
theorem Inv.drew {E M ι H w} (h : Inv E M ι H w) (n : Nat) : Inv E M ι H { w with drawn := n } := h.of_heap rfl rfl rfl rfl

/-- Labels may be forgotten, objects too. -/
theorem Inv.forget {E M ι H w} (h : Inv E M ι H w) (H' : Sto) (hH : ∀ l o, H' l = some o → H l = some o) : Inv E M ι H' w :=
  ⟨h.mem, fun l o ho => h.obj l o (hH l o ho), fun l l' o o' bd bd' b ho ho' => h.inj l l' o o' bd bd' b (hH _ _ ho) (hH _ _ ho'), fun l o bd b ho => h.sep l o bd b (hH _ _ ho),
    fun l o bd b ho => h.own l o bd b (hH _ _ ho), h.le, h.new, h.size, h.os, h.tape, h.output, h.frame⟩

/-- Assoc lists, the newest first. -/
def look {α : Type} : List (Nat × α) → Nat → Option α
  | [], _ => none
  | (k, v) :: r, n => match Nat.decEq k n with
    | .isTrue _ => some v
    | .isFalse _ => look r n

theorem look_cons {α : Type} (k : Nat) (v : α) (r : List (Nat × α)) (n : Nat) : look ((k, v) :: r) n = if k = n then some v else look r n := by
  simp only [look]
  split
  · rename_i h _; simp [h]
  · rename_i h _; simp [h]

def Env.set (ι : Env) (l : Nat) (bd : Bind) : Env := fun k => if k = l then some bd else ι k
theorem Env.set_same (ι : Env) (l : Nat) (bd : Bind) : ι.set l bd l = some bd := by simp [Env.set]
theorem Env.set_other (ι : Env) {l k : Nat} (bd : Bind) (h : k ≠ l) : ι.set l bd k = ι k := by simp [Env.set, h]
theorem Grow.fresh {M M' : Mem} {ι : Env} (hm : ∀ a v, M a = some v → M' a = some v) {l : Nat} (hl : ι l = none) (bd : Bind) : Grow M ι M' (ι.set l bd) :=
  ⟨hm, fun k b hk => by
    by_cases e : k = l
    · subst e; rw [hl] at hk; cases hk
    · exact ⟨b, by rw [Env.set_other _ _ e]; exact hk, .inl rfl⟩⟩
def Sto.set (H : Sto) (l : Nat) (o : Option O) : Sto := fun k => if k = l then o else H k
theorem Sto.set_same (H : Sto) (l : Nat) (o : Option O) : H.set l o l = o := by simp [Sto.set]
theorem Sto.set_other (H : Sto) {l k : Nat} (o : Option O) (h : k ≠ l) : H.set l o k = H k := by simp [Sto.set, h]

theorem heap_push_lt (w : World) (o : Obj) {k : Nat} (h : k < w.heap.size) : (w.alloc o).heap[k]? = w.heap[k]? := Below.heap_alloc w o k h
theorem heap_push_size (w : World) (o : Obj) : (w.alloc o).heap.size = w.heap.size + 1 := by
  show (w.heap.push o).size = _
  simp
theorem heap_push_new (w : World) (o : Obj) : (w.alloc o).heap[w.heap.size]? = some o := by
  show (w.heap.push o)[w.heap.size]? = _
  simp
theorem heap_push_ne (w : World) (o : Obj) {k : Nat} (h : k ≠ w.heap.size) : (w.alloc o).heap[k]? = w.heap[k]? := by
  by_cases hk : k < w.heap.size
  · exact heap_push_lt w o hk
  · rw [Array.getElem?_eq_none (by rw [heap_push_size]; omega), Array.getElem?_eq_none (by omega)]

/-- A new object of cells. -/
theorem Inv.alloc {E M ι H w} (h : Inv E M ι H w) {l : Nat} (hl : ι l = none) (t : TypeId) {vs : List V} {cs : List Value} (hr : RepVs M ι vs cs) (h1 : ∀ x ∈ cs, x.oneCell' = true) :
    Inv E M (ι.set l ⟨.cells, some w.heap.size, 0, 0⟩) (H.set l (some (.cells vs t))) (w.alloc (.cells cs.toArray t)) := by
  have hg : Grow M ι M (ι.set l ⟨.cells, some w.heap.size, 0, 0⟩) := Grow.fresh (fun _ _ h => h) hl _
  refine h.upd (fun k => k = l) (fun k => k = w.heap.size) hg (fun k hk => heap_push_ne w _ hk) (fun k hk => .inl (by omega)) (fun k hk => ⟨Sto.set_other _ _ hk, fun _ _ => Env.set_other _ _ hk⟩) ?_ ?_ ?_ ?_ (by rw [heap_push_size]; omega) rfl rfl rfl
  · rintro k o rfl ho
    rw [Sto.set_same] at ho; injection ho with ho; subst ho
    refine ⟨_, Env.set_same _ _ _, ⟨rfl, w.heap.size, cs, rfl, heap_push_new w _, RepVs.grow hg _ _ hr, h1⟩, ?_⟩
    rintro b hb
    injection hb with hb; subst hb
    refine ⟨rfl, fun a v hv hab => ?_⟩
    have := cell_lt (h.mem a v hv); omega
  · rintro k k' _ _ _ _ _ rfl rfl _ _ _ _ _ _; rfl
  · intro a v hv hn; rw [hv] at hn; cases hn
  · intro a v hv ht
    have := cell_lt (h.mem a v hv); omega

/-- What M holds and, besides, the first cells of one block. -/
def Mem.add (M : Mem) (b lo : Nat) (cs : List Value) : Mem := fun a => if a.block = b ∧ a.spot = none ∧ lo ≤ a.off ∧ a.off < lo + cs.length then cs[a.off - lo]? else M a

theorem Mem.add_in {M : Mem} {b lo : Nat} {cs : List Value} {j : Nat} {v : Value} (h : cs[j]? = some v) : M.add b lo cs ⟨b, lo + j, none⟩ = some v := by
  have hj := (List.getElem?_eq_some_iff.1 h).1
  simp only [Mem.add]
  rw [if_pos ⟨trivial, trivial, by omega, by omega⟩]
  rwa [Nat.add_sub_cancel_left]
theorem Mem.add_new {M : Mem} {b lo : Nat} {cs : List Value} {a : Addr} {v : Value} (h : M.add b lo cs a = some v) (hn : M a = none) : a.block = b ∧ a.spot = none ∧ lo ≤ a.off ∧ a.off < lo + cs.length ∧ cs[a.off - lo]? = some v := by
  simp only [Mem.add] at h
  split at h
  · rename_i hc; exact ⟨hc.1, hc.2.1, hc.2.2.1, hc.2.2.2, h⟩
  · rw [hn] at h; cases h

/-- A new block whose first cells never turn; it may be labelled as a row. -/
theorem Inv.alloc_row {E M ι H w} (h : Inv E M ι H w) (t : TypeId) (news rest : List Value) (sz n cap : Nat) (hn : news.length = n * sz) (hc : (news ++ rest).length = cap * sz) (hle : n ≤ cap) {l : Nat} (hl : ι l = none) :
    Grow M ι (M.add w.heap.size 0 news) (ι.set l ⟨.row, some w.heap.size, cap, n⟩) ∧
    Inv E (M.add w.heap.size 0 news) (ι.set l ⟨.row, some w.heap.size, cap, n⟩) (H.set l (some (.row n sz t))) (w.alloc (.cells (news ++ rest).toArray t)) := by
  have hold : ∀ a v, M a = some v → a.block < w.heap.size := fun a v hv => cell_lt (h.mem a v hv)
  have hm : ∀ a v, M a = some v → M.add w.heap.size 0 news a = some v := fun a v hv => by
    have := hold a v hv
    simp only [Mem.add]; rw [if_neg (by omega)]; exact hv
  have hg : Grow M ι (M.add w.heap.size 0 news) (ι.set l ⟨.row, some w.heap.size, cap, n⟩) := Grow.fresh hm hl _
  refine ⟨hg, ?_⟩
  have hin : ∀ a v, M.add w.heap.size 0 news a = some v → a.block = w.heap.size → a.off < n * sz ∧ a.spot = none ∧ news[a.off]? = some v := fun a v hv hb => by
    cases hma : M a with
    | some u => have := hold a u hma; omega
    | none =>
      obtain ⟨_, e2, _, e4, e5⟩ := Mem.add_new hv hma
      exact ⟨by omega, e2, by simpa using e5⟩
  refine h.upd (fun k => k = l) (fun k => k = w.heap.size) hg (fun k hk => heap_push_ne w _ hk) (fun k hk => .inl (by omega)) (fun k hk => ⟨Sto.set_other _ _ hk, fun _ _ => Env.set_other _ _ hk⟩) ?_ ?_ ?_ ?_ (by rw [heap_push_size]; omega) rfl rfl rfl
  · rintro k o rfl ho
    rw [Sto.set_same] at ho; injection ho with ho; subst ho
    refine ⟨_, Env.set_same _ _ _, ⟨rfl, rfl, hle, ?_⟩, ?_⟩
    · rintro b hb
      injection hb with hb; subst hb
      exact ⟨_, heap_push_new w _, by simpa using hc⟩
    · rintro b hb
      injection hb with hb; subst hb
      exact ⟨rfl, fun a v hv hab => (hin a v hv hab).1⟩
  · rintro k k' _ _ _ _ _ rfl rfl _ _ _ _ _ _; rfl
  · intro a v hv hn'; exact (Mem.add_new hv hn').1
  · intro a v hv ht
    obtain ⟨e1, e2, e3⟩ := hin a v hv ht
    unfold World.cell?
    rw [ht, heap_push_new]
    simp only [e2, Option.isSome_none, Bool.false_eq_true, if_false, List.getElem?_toArray]
    rw [List.getElem?_append_left (by omega)]
    exact e3

/-- A new block whose cells never turn. -/
theorem Inv.alloc_fix {E M ι H w} (h : Inv E M ι H w) (t : TypeId) (news : List Value) :
    Grow M ι (M.add w.heap.size 0 news) ι ∧ Inv E (M.add w.heap.size 0 news) ι H (w.alloc (.cells news.toArray t)) := by
  have hold : ∀ a v, M a = some v → a.block < w.heap.size := fun a v hv => cell_lt (h.mem a v hv)
  have hm : ∀ a v, M a = some v → M.add w.heap.size 0 news a = some v := fun a v hv => by
    have := hold a v hv
    simp only [Mem.add]; rw [if_neg (by omega)]; exact hv
  have hg : Grow M ι (M.add w.heap.size 0 news) ι := ⟨hm, fun l bd hl => ⟨bd, hl, .inl rfl⟩⟩
  refine ⟨hg, ?_⟩
  refine h.upd (fun _ => False) (fun k => k = w.heap.size) hg (fun k hk => heap_push_ne w _ hk) (fun k hk => .inl (by omega)) (fun k hk => ⟨rfl, fun _ _ => rfl⟩) (fun _ _ h => h.elim) (fun _ _ _ _ _ _ _ h => h.elim) ?_ ?_ (by rw [heap_push_size]; omega) rfl rfl rfl
  · intro a v hv hn'; exact (Mem.add_new hv hn').1
  · intro a v hv ht
    cases hma : M a with
    | some u => have := hold a u hma; omega
    | none =>
      obtain ⟨_, e2, _, e4, e5⟩ := Mem.add_new hv hma
      unfold World.cell?
      rw [ht, heap_push_new]
      simp only [e2, Option.isSome_none, Bool.false_eq_true, if_false, List.getElem?_toArray]
      simpa using e5

theorem heap_set_same {w : World} {b off : Nat} {cs : Array Value} {t : TypeId} {fr : Nat × Nat} (v : Value) (h : w.heap[b]? = some (.cells cs t fr)) :
    (w.setCell ⟨b, off, none⟩ v).heap[b]? = some (.cells (cs.setIfInBounds off v) t fr) := by
  simp [World.setCell, Array.getElem?_modify, h]
theorem heap_set_ne {w : World} {b off k : Nat} (v : Value) (h : k ≠ b) : (w.setCell ⟨b, off, none⟩ v).heap[k]? = w.heap[k]? := Below.heap_setCell w _ _ _ h

/-- The cells of an object are written: the world afterwards has them in their place. -/
theorem Inv.write {E M ι H w} (h : Inv E M ι H w) {l : Nat} {vs vs' : List V} {t : TypeId} {bd : Bind} {b : Nat} (ho : H l = some (.cells vs t)) (hb : ι l = some bd) (hk : bd.blk = some b)
    {cs' : List Value} (hr : RepVs M ι vs' cs') (h1 : ∀ x ∈ cs', x.oneCell' = true) {w' : World} (hw : w'.heap[b]? = some (.cells cs'.toArray t (0, 0))) (hne : ∀ k, k ≠ b → w'.heap[k]? = w.heap[k]?)
    (hz : w'.heap.size = w.heap.size) (e1 : w'.os = w.os) (e2 : w'.tape = w.tape) (e3 : w'.output = w.output) : Inv E M ι (H.set l (some (.cells vs' t))) w' := by
  have htag : bd.tag = .cells := by
    obtain ⟨bd', e, hr'⟩ := h.obj l _ ho
    rw [hb] at e; injection e with e; subst e
    exact hr'.1
  refine h.upd (fun k => k = l) (fun k => k = b) (Grow.refl _ _) (fun k hk' => hne k hk') (fun k hk' => .inr ⟨l, _, bd, rfl, ho, hb, by rw [hk, hk']⟩) (fun k hk' => ⟨Sto.set_other _ _ hk', fun _ _ => rfl⟩) ?_ ?_ ?_ ?_ (by omega) e1 e2 e3
  · rintro k o rfl ho'
    rw [Sto.set_same] at ho'; injection ho' with ho'; subst ho'
    refine ⟨bd, hb, ⟨htag, b, cs', hk, hw, hr, h1⟩, ?_⟩
    rintro b' hb'
    rw [hk] at hb'; injection hb' with hb'; subst hb'
    exact ⟨rfl, fun a v hv hab => h.sep k _ bd _ ho hb hk a v hv hab⟩
  · rintro k k' _ _ _ _ _ rfl rfl _ _ _ _ _ _; rfl
  · intro a v hv hn; rw [hv] at hn; cases hn
  · intro a v hv ht
    exact (h.sep l _ bd b ho hb hk a v hv ht).elim

/-- A row is appended to in its place. -/
theorem Inv.append_in {E M ι H w} (h : Inv E M ι H w) {l : Nat} {n sz : Nat} {t : TypeId} {bd : Bind} {b : Nat} (ho : H l = some (.row n sz t)) (hb : ι l = some bd) (hk : bd.blk = some b)
    {news : List Value} {k : Nat} (hlen : news.length = k * sz) (hroom : n + k ≤ bd.cap) (hk0 : 0 < k) {w' : World} {cs cs' : Array Value} (hcs : w.heap[b]? = some (.cells cs t (0, 0)))
    (hw : w'.heap[b]? = some (.cells cs' t (0, 0))) (hsz : cs'.size = cs.size) (hlo : ∀ j, j < n * sz → cs'[j]? = cs[j]?) (hnew : ∀ j, j < k * sz → cs'[n * sz + j]? = news[j]?)
    (hne : ∀ i, i ≠ b → w'.heap[i]? = w.heap[i]?) (hz : w'.heap.size = w.heap.size) (e1 : w'.os = w.os) (e2 : w'.tape = w.tape) (e3 : w'.output = w.output) :
    Grow M ι (M.add b (n * sz) news) (ι.set l ⟨.row, some b, bd.cap, n + k⟩) ∧
    Inv E (M.add b (n * sz) news) (ι.set l ⟨.row, some b, bd.cap, n + k⟩) (H.set l (some (.row (n + k) sz t))) w' := by
  obtain ⟨bd', e, hr⟩ := h.obj l _ ho
  rw [hb] at e; injection e with e; subst e
  obtain ⟨r1, r2, r3, r4⟩ := hr
  obtain ⟨cs0, r5, r6⟩ := r4 b hk
  rw [hcs] at r5; injection r5 with r5; injection r5 with r5 _; subst r5
  have hsep : ∀ a v, M a = some v → a.block = b → a.off < n * sz := fun a v hv hab => h.sep l _ bd b ho hb hk a v hv hab
  have hm : ∀ a v, M a = some v → M.add b (n * sz) news a = some v := fun a v hv => by
    simp only [Mem.add]
    rw [if_neg (fun hc => by have := hsep a v hv hc.1; omega)]; exact hv
  have hg : Grow M ι (M.add b (n * sz) news) (ι.set l ⟨.row, some b, bd.cap, n + k⟩) := ⟨hm, fun i bi hi => by
    by_cases e : i = l
    · subst e; rw [hb] at hi; injection hi with hi; subst hi
      exact ⟨_, Env.set_same _ _ _, .inr ⟨r1, rfl, by simp only []; omega⟩⟩
    · exact ⟨bi, by rw [Env.set_other _ _ e]; exact hi, .inl rfl⟩⟩
  refine ⟨hg, ?_⟩
  have hin : ∀ a v, M.add b (n * sz) news a = some v → a.block = b → a.off < (n + k) * sz := fun a v hv hab => by
    have hmul : (n + k) * sz = n * sz + k * sz := Nat.add_mul ..
    cases hma : M a with
    | some u => have := hsep a u hma hab; omega
    | none => obtain ⟨_, _, _, e4, _⟩ := Mem.add_new hv hma; omega
  refine h.upd (fun i => i = l) (fun i => i = b) hg (fun i hi => hne i hi) (fun i hi => .inr ⟨l, _, bd, rfl, ho, hb, by rw [hk, hi]⟩) (fun i hi => ⟨Sto.set_other _ _ hi, fun _ _ => Env.set_other _ _ hi⟩) ?_ ?_ ?_ ?_ (by omega) e1 e2 e3
  · rintro i o rfl ho'
    rw [Sto.set_same] at ho'; injection ho' with ho'; subst ho'
    refine ⟨_, Env.set_same _ _ _, ⟨rfl, rfl, hroom, ?_⟩, ?_⟩
    · rintro b' hb'
      injection hb' with hb'; subst hb'
      exact ⟨cs', hw, by rw [hsz]; exact r6⟩
    · rintro b' hb'
      injection hb' with hb'; subst hb'
      exact ⟨rfl, hin⟩
  · rintro i i' _ _ _ _ _ rfl rfl _ _ _ _ _ _; rfl
  · intro a v hv hn'; exact (Mem.add_new hv hn').1
  · intro a v hv ht
    unfold World.cell?
    rw [ht, hw]
    cases hma : M a with
    | some u =>
      have e4 := hm a u hma
      rw [hv] at e4; injection e4 with e4; subst e4
      have e5 := h.mem a _ hma
      have e6 := hsep a _ hma ht
      unfold World.cell? at e5
      rw [ht, hcs] at e5
      simp only [] at e5 ⊢
      rw [hlo _ e6]; exact e5
    | none =>
      obtain ⟨_, f2, f3, f4, f5⟩ := Mem.add_new hv hma
      simp only [f2, Option.isSome_none, Bool.false_eq_true, if_false]
      have := hnew (a.off - n * sz) (by omega)
      rw [show n * sz + (a.off - n * sz) = a.off by omega] at this
      rw [this]; exact f5

/-- A slice that has no room left may be given a label: whatever is appended to it goes elsewhere. -/
theorem Inv.virtual {E M ι H w} (h : Inv E M ι H w) {l : Nat} (hl : ι l = none) (n sz : Nat) (t : TypeId) :
    Grow M ι M (ι.set l ⟨.row, none, n, n⟩) ∧ Inv E M (ι.set l ⟨.row, none, n, n⟩) (H.set l (some (.row n sz t))) w := by
  have hg : Grow M ι M (ι.set l ⟨.row, none, n, n⟩) := Grow.fresh (fun _ _ h => h) hl _
  refine ⟨hg, h.upd (fun k => k = l) (fun _ => False) hg (fun _ _ => rfl) (fun _ h => h.elim) (fun k hk => ⟨Sto.set_other _ _ hk, fun _ _ => Env.set_other _ _ hk⟩) ?_ ?_ (fun a v hv hn => by rw [hv] at hn; cases hn) (fun _ _ _ h => h.elim) (Nat.le_refl _) rfl rfl rfl⟩
  · rintro k o rfl ho
    rw [Sto.set_same] at ho; injection ho with ho; subst ho
    exact ⟨_, Env.set_same _ _ _, ⟨rfl, rfl, Nat.le_refl _, fun b hb => by cases hb⟩, fun b hb => by cases hb⟩
  · rintro k k' _ _ _ _ _ rfl rfl _ _ _ _ _ _; rfl
/-- The same at a label that bore an older, shorter row. -/
theorem Inv.alloc_row_over {E M ι H w} (h : Inv E M ι H w) (t : TypeId) (news rest : List Value) (sz n n0 cap : Nat) (hn : news.length = n * sz) (hc : (news ++ rest).length = cap * sz) (hle : n ≤ cap) {l : Nat} {bd : Bind}
    (ho : H l = some (.row n0 sz t)) (hb : ι l = some bd) (hlt : n0 < n) :
    Grow M ι (M.add w.heap.size 0 news) (ι.set l ⟨.row, some w.heap.size, cap, n⟩) ∧
    Inv E (M.add w.heap.size 0 news) (ι.set l ⟨.row, some w.heap.size, cap, n⟩) (H.set l (some (.row n sz t))) (w.alloc (.cells (news ++ rest).toArray t)) := by
  obtain ⟨bd', e, r1, r2, r3, _⟩ := h.obj l _ ho
  rw [hb] at e; injection e with e; subst e
  have hold : ∀ a v, M a = some v → a.block < w.heap.size := fun a v hv => cell_lt (h.mem a v hv)
  have hm : ∀ a v, M a = some v → M.add w.heap.size 0 news a = some v := fun a v hv => by
    have := hold a v hv
    simp only [Mem.add]; rw [if_neg (by omega)]; exact hv
  have hg : Grow M ι (M.add w.heap.size 0 news) (ι.set l ⟨.row, some w.heap.size, cap, n⟩) := ⟨hm, fun i bi hi => by
    by_cases e : i = l
    · subst e; rw [hb] at hi; injection hi with hi; subst hi
      exact ⟨_, Env.set_same _ _ _, .inr ⟨r1, rfl, by simp only []; omega⟩⟩
    · exact ⟨bi, by rw [Env.set_other _ _ e]; exact hi, .inl rfl⟩⟩
  refine ⟨hg, ?_⟩
  have hin : ∀ a v, M.add w.heap.size 0 news a = some v → a.block = w.heap.size → a.off < n * sz ∧ a.spot = none ∧ news[a.off]? = some v := fun a v hv hb => by
    cases hma : M a with
    | some u => have := hold a u hma; omega
    | none =>
      obtain ⟨_, e2, _, e4, e5⟩ := Mem.add_new hv hma
      exact ⟨by omega, e2, by simpa using e5⟩
  refine h.upd (fun k => k = l) (fun k => k = w.heap.size) hg (fun k hk => heap_push_ne w _ hk) (fun k hk => .inl (by omega)) (fun k hk => ⟨Sto.set_other _ _ hk, fun _ _ => Env.set_other _ _ hk⟩) ?_ ?_ ?_ ?_ (by rw [heap_push_size]; omega) rfl rfl rfl
  · rintro k o rfl ho
    rw [Sto.set_same] at ho; injection ho with ho; subst ho
    refine ⟨_, Env.set_same _ _ _, ⟨rfl, rfl, hle, ?_⟩, ?_⟩
    · rintro b hb
      injection hb with hb; subst hb
      exact ⟨_, heap_push_new w _, by simpa using hc⟩
    · rintro b hb
      injection hb with hb; subst hb
      exact ⟨rfl, fun a v hv hab => (hin a v hv hab).1⟩
  · rintro k k' _ _ _ _ _ rfl rfl _ _ _ _ _ _; rfl
  · intro a v hv hn'; exact (Mem.add_new hv hn').1
  · intro a v hv ht
    obtain ⟨e1, e2, e3⟩ := hin a v hv ht
    unfold World.cell?
    rw [ht, heap_push_new]
    simp only [e2, Option.isSome_none, Bool.false_eq_true, if_false, List.getElem?_toArray]
    rw [List.getElem?_append_left (by omega)]
    exact e3
end Go.AM
set_option linter.unusedVariables false
set_option linter.unusedSimpArgs false
namespace Go.AM
open Go Go.RowKit

/-- What package-level variables hold, cell by cell; they never turn. -/
abbrev Gl := List (Nat × List D)
def GOk (G : Gl) (M : Mem) : Prop := ∀ g cs, look G g = some cs → RepRow M cs ⟨g, 0, none⟩
theorem GOk.grow {G : Gl} {M M' : Mem} (h : GOk G M) (hm : ∀ a v, M a = some v → M' a = some v) : GOk G M' := fun g cs hg => RepRow.grow hm _ _ (h g cs hg)

def constV : Value → Option V
  | .bool b => some (.d (.bool b))
  | .int k n => some (.d (.int k n))
  | .string s => some (.d (.str s))
  | .pointer none => some (.d .nilPtr)
  | .slice none 0 0 => some (.d .nils)
  | .nilFunc => some (.d .nilFunc)
  | .nilIface => some (.d .nilIface)
  | .map none => some (.d .nilMap)
  | _ => none
theorem constV_rep {M : Mem} {ι : Env} {v : Value} {x : V} (h : constV v = some x) : RepV M ι x v := by
  unfold constV at h
  split at h <;> first | (injection h with h; subst h; simp [RepV, RepD]) | cases h

def opd (G : Gl) (ρ : Nat → Option V) : Operand → Option V
  | .tmp t => ρ t
  | .const v => constV v
  | .global g => (look G g).map V.cptr
  | .func f => some (.d (.fn f))

/-- The operands' values, one by one. -/
def Opds (G : Gl) (ρ : Nat → Option V) : List Operand → List V → Prop
  | [], l => l = []
  | x :: xs, l => ∃ v r, l = v :: r ∧ opd G ρ x = some v ∧ Opds G ρ xs r

def Sto.upd (H : Sto) : List (Nat × Option O) → Sto
  | [] => H
  | (l, o) :: r => fun k => if k = l then o else Sto.upd H r k

theorem Sto.upd_not (H : Sto) : ∀ (wr : List (Nat × Option O)) (l : Nat), l ∉ wr.map (·.1) → H.upd wr l = H l
  | [], _, _ => rfl
  | (k, o) :: r, l, h => by
    simp only [List.map_cons, List.mem_cons, not_or] at h
    simp only [Sto.upd, if_neg h.1]
    exact Sto.upd_not H r l h.2
theorem Sto.upd_in (H H' : Sto) : ∀ (wr : List (Nat × Option O)) (l : Nat), l ∈ wr.map (·.1) → H.upd wr l = H'.upd wr l
  | [], _, h => by cases h
  | (k, o) :: r, l, h => by
    simp only [Sto.upd]
    by_cases e : l = k
    · simp [e]
    · simp only [List.map_cons, List.mem_cons, e, false_or] at h
      simp only [e, if_false]
      exact Sto.upd_in H H' r l h

/-- What an operation does, whatever else the store holds: from the objects 'fp' it makes 'wr', and it gives 'v'. -/
def AOp (P : Program) (G : Gl) (o : Oper) (vals : List V) (fp : List (Nat × O)) (wr : List (Nat × Option O)) (v : V) : Prop :=
  ∀ (E : Entry) (M : Mem) (ι : Env) (H : Sto) (w : World) (a : Act) (next : Act → World → Prop) (Q : Exit → Act → World → Prop),
    Inv E M ι H w → GOk G M → (∀ l o', (l, o') ∈ fp → H l = some o') → RepVs M ι vals (o.op.operands.toList.map a.eval) →
    (∀ l, l ∈ wr.map (·.1) → l ∉ fp.map (·.1) → ι l = none) →
    (∀ M' ι' w' cv, Grow M ι M' ι' → (∀ l, l ∉ wr.map (·.1) → ι' l = ι l) → Inv E M' ι' (H.upd wr) w' → RepV M' ι' v cv → next (a.put o.dst cv) w') →
    o.wp P a w next Q

structure Rec where
  o : Oper
  vals : List V
  fp : List (Nat × O)
  wr : List (Nat × Option O)
  v : V

def guardIs (ops : Array Oper) (ρ : Nat → Option V) (o : Oper) (b : Bool) : Prop :=
  match o.guard with
  | none => b = true
  | some (g, want) => ∃ d, ((ops[g]?).bind (·.dst)) = some d ∧ ((∃ c, ρ d = some (.d (.bool c)) ∧ b = (c == want)) ∨ (ρ d = some (.tup []) ∧ b = false))

def StepOk (P : Program) (G : Gl) (N : Nat) (ops : Array Oper) (r : Rec) (ρ : Nat → Option V) (H : Sto) (used : Nat → Prop) : Prop :=
  (∀ d, r.o.dst = some d → d < N) ∧
  ((guardIs ops ρ r.o true ∧ Opds G ρ r.o.op.operands.toList r.vals ∧ AOp P G r.o r.vals r.fp r.wr r.v ∧ (∀ l o', (l, o') ∈ r.fp → H l = some o') ∧
      (∀ l, l ∈ r.wr.map (·.1) → l ∉ r.fp.map (·.1) → ¬ used l)) ∨
   (guardIs ops ρ r.o false ∧ r.fp = [] ∧ r.wr = [] ∧ r.v = .tup []))

def putT (ρ : Nat → Option V) (d : Option Nat) (v : V) : Nat → Option V :=
  match d with
  | none => ρ
  | some d => fun t => if t = d then some v else ρ t

/-- The states of the canonical run. -/
def RT (ρ : Nat → Option V) : List Rec → Nat → Option V
  | [] => ρ
  | r :: rs => RT (putT ρ r.o.dst r.v) rs
def RH (H : Sto) : List Rec → Sto
  | [] => H
  | r :: rs => RH (H.upd r.wr) rs
def RU (used : Nat → Prop) : List Rec → Nat → Prop
  | [] => used
  | r :: rs => RU (fun l => used l ∨ l ∈ r.wr.map (·.1)) rs

/-- All steps stand. -/
def StepsOk (P : Program) (G : Gl) (N : Nat) (ops : Array Oper) : List Rec → (Nat → Option V) → Sto → (Nat → Prop) → Prop
  | [], _, _, _ => True
  | r :: rs, ρ, H, used => StepOk P G N ops r ρ H used ∧ StepsOk P G N ops rs (putT ρ r.o.dst r.v) (H.upd r.wr) (fun l => used l ∨ l ∈ r.wr.map (·.1))

theorem StepsOk.at {P G N ops} : ∀ {rs : List Rec} {ρ H used} {k : Nat} {r : Rec}, StepsOk P G N ops rs ρ H used → rs[k]? = some r →
    StepOk P G N ops r (RT ρ (rs.take k)) (RH H (rs.take k)) (RU used (rs.take k))
  | [], _, _, _, _, _, _, h => by simp at h
  | x :: rs, ρ, H, used, 0, r, h, hk => by simp at hk; subst hk; exact h.1
  | x :: rs, ρ, H, used, k + 1, r, h, hk => by
    simp at hk
    simpa [RT, RH, RU] using StepsOk.at h.2 hk

def Rec.wt (r : Rec) (t : Nat) : Prop := r.o.dst = some t
def Rec.wl (r : Rec) (l : Nat) : Prop := l ∈ r.wr.map (·.1)
def Rec.rl (r : Rec) (l : Nat) : Prop := l ∈ r.fp.map (·.1)
def Rec.rt (ops : Array Oper) (r : Rec) (t : Nat) : Prop := t ∈ r.o.looksAt ops

theorem RT_same {ρ : Nat → Option V} {t : Nat} : ∀ (rs : List Rec), (∀ r ∈ rs, ¬ r.wt t) → RT ρ rs t = ρ t
  | [], _ => rfl
  | r :: rs, h => by
    simp only [RT]
    rw [RT_same rs (fun r hr => h r (by simp [hr]))]
    have := h r (by simp)
    unfold Rec.wt at this
    cases hd : r.o.dst with
    | none => rfl
    | some d => simp only [putT]; rw [if_neg (fun e => this (by rw [hd, e]))]
theorem RH_same {H : Sto} {l : Nat} : ∀ (rs : List Rec), (∀ r ∈ rs, ¬ r.wl l) → RH H rs l = H l
  | [], _ => rfl
  | r :: rs, h => by
    simp only [RH]
    rw [RH_same rs (fun r hr => h r (by simp [hr]))]
    exact Sto.upd_not H _ _ (h r (by simp))
theorem RT_app (ρ : Nat → Option V) : ∀ (xs ys : List Rec), RT ρ (xs ++ ys) = RT (RT ρ xs) ys
  | [], _ => rfl
  | x :: xs, ys => by simp only [List.cons_append, RT]; exact RT_app _ xs ys
theorem RH_app (H : Sto) : ∀ (xs ys : List Rec), RH H (xs ++ ys) = RH (RH H xs) ys
  | [], _ => rfl
  | x :: xs, ys => by simp only [List.cons_append, RH]; exact RH_app _ xs ys
theorem RU_iff (used : Nat → Prop) (l : Nat) : ∀ (xs : List Rec), RU used xs l ↔ used l ∨ ∃ r ∈ xs, r.wl l
  | [] => by simp [RU]
  | x :: xs => by
    simp only [RU, RU_iff _ l xs, List.mem_cons]
    constructor
    · rintro ((h | h) | ⟨r, h1, h2⟩)
      · exact .inl h
      · exact .inr ⟨x, .inl rfl, h⟩
      · exact .inr ⟨r, .inr h1, h2⟩
    · rintro (h | ⟨r, (rfl | h1), h2⟩)
      · exact .inl (.inl h)
      · exact .inl (.inr h2)
      · exact .inr ⟨r, h1, h2⟩

theorem seg_eq {α : Type} (l : List α) {m n : Nat} (h : m ≤ n) : l.take n = l.take m ++ (l.drop m).take (n - m) := by
  have := List.take_add (l := l) (i := m) (j := n - m)
  rwa [show m + (n - m) = n by omega] at this
theorem mem_seg {α : Type} {l : List α} {m n : Nat} {x : α} (h : x ∈ (l.drop m).take (n - m)) : ∃ k, m ≤ k ∧ k < n ∧ l[k]? = some x := by
  obtain ⟨i, hi⟩ := List.getElem?_of_mem h
  rw [List.getElem?_take] at hi
  split at hi
  · rw [List.getElem?_drop] at hi; exact ⟨m + i, by omega, by omega, hi⟩
  · cases hi
theorem RT_between {ρ : Nat → Option V} {rs : List Rec} {t m n : Nat} (h : ∀ k r, rs[k]? = some r → r.wt t → ¬ (m ≤ k ∧ k < n) ∧ ¬ (n ≤ k ∧ k < m)) : RT ρ (rs.take m) t = RT ρ (rs.take n) t := by
  rcases Nat.le_total m n with hmn | hmn
  · rw [seg_eq rs hmn, RT_app, RT_same ((rs.drop m).take (n - m)) (fun r hr hw => by obtain ⟨k, k1, k2, k3⟩ := mem_seg hr; exact (h k r k3 hw).1 ⟨k1, k2⟩)]
  · rw [seg_eq rs hmn, RT_app, RT_same _ (fun r hr hw => by obtain ⟨k, k1, k2, k3⟩ := mem_seg hr; exact (h k r k3 hw).2 ⟨k1, k2⟩)]
theorem RH_between {H : Sto} {rs : List Rec} {l m n : Nat} (h : ∀ k r, rs[k]? = some r → r.wl l → ¬ (m ≤ k ∧ k < n) ∧ ¬ (n ≤ k ∧ k < m)) : RH H (rs.take m) l = RH H (rs.take n) l := by
  rcases Nat.le_total m n with hmn | hmn
  · rw [seg_eq rs hmn, RH_app, RH_same ((rs.drop m).take (n - m)) (fun r hr hw => by obtain ⟨k, k1, k2, k3⟩ := mem_seg hr; exact (h k r k3 hw).1 ⟨k1, k2⟩)]
  · rw [seg_eq rs hmn, RH_app, RH_same _ (fun r hr hw => by obtain ⟨k, k1, k2, k3⟩ := mem_seg hr; exact (h k r k3 hw).2 ⟨k1, k2⟩)]
theorem take_succ_at {α : Type} {l : List α} {k : Nat} {x : α} (h : l[k]? = some x) : l.take (k + 1) = l.take k ++ [x] := by
  rw [List.take_add_one, h]; rfl

/-- Two steps that may not change places. -/
def Conf (ops : Array Oper) (a b : Rec) : Prop :=
  (∃ t, a.wt t ∧ (b.rt ops t ∨ b.wt t)) ∨ (∃ t, b.wt t ∧ a.rt ops t) ∨ (∃ l, a.wl l ∧ (b.rl l ∨ b.wl l)) ∨ (∃ l, b.wl l ∧ a.rl l)

/-- The state when the steps S have been done. -/
structure RInv (G : Gl) (N : Nat) (ops : Array Oper) (rs : List Rec) (ρ0 : Nat → Option V) (H0 : Sto) (ι0 : Env) (E : Entry) (M0 : Mem) (S : Nat → Prop) (M : Mem) (ι : Env) (H : Sto) (a : Act) (w : World) : Prop where
  inv : Inv E M ι H w
  g : GOk G M
  sz : a.tmps.size = N
  df : a.defers = []
  tm : ∀ t, ∃ m, m ≤ rs.length ∧ (∀ v, RT ρ0 (rs.take m) t = some v → RepV M ι v (a.tmps.getD t undef)) ∧ ∀ k r, rs[k]? = some r → r.wt t → (k < m ↔ S k)
  ob : ∀ l, ∃ m, m ≤ rs.length ∧ H l = RH H0 (rs.take m) l ∧ ∀ k r, rs[k]? = some r → r.wl l → (k < m ↔ S k)
  lab : ∀ l, (∀ k r, rs[k]? = some r → S k → ¬ r.wl l) → ι l = ι0 l
  gr : Grow M0 ι0 M ι

theorem eval_put (a : Act) (d : Option Nat) (v : Value) (x : Operand) (h : ∀ t, d = some t → x ≠ .tmp t) : (a.put d v).eval x = a.eval x := by
  cases d with
  | none => rfl
  | some t =>
    cases x with
    | tmp u =>
      have : t ≠ u := fun e => h t rfl (by rw [e])
      simp only [Act.put, Act.eval]
      rw [Array.getD_eq_getD_getElem?, Array.getD_eq_getD_getElem?, Array.getElem?_setIfInBounds_ne this]
    | _ => rfl

theorem getD_put {a : Act} {d t : Nat} {v : Value} (h : d < a.tmps.size) : (a.put (some d) v).tmps.getD t undef = if t = d then v else a.tmps.getD t undef := by
  simp only [Act.put, Array.getD_eq_getD_getElem?]
  by_cases e : t = d
  · subst e; simp [h]
  · rw [Array.getElem?_setIfInBounds_ne (fun x => e x.symm), if_neg e]

theorem yielded_undef {ops : Array Oper} {tmps : Array Value} {g d : Nat} {vs : Array Value} (hd : ((ops[g]?).bind (·.dst)) = some d) (hv : tmps.getD d undef = .tuple vs) : yielded ops tmps g = none := by
  unfold yielded
  rw [hd]
  simp only [Option.bind_some]
  cases h : tmps[d]? with
  | none => rfl
  | some v =>
    have : v = .tuple vs := by simpa [Array.getD_eq_getD_getElem?, h] using hv
    subst this; rfl
theorem yielded_of {ops : Array Oper} {tmps : Array Value} {g d : Nat} {c : Bool} (hd : ((ops[g]?).bind (·.dst)) = some d) (hv : tmps.getD d undef = .bool c) : yielded ops tmps g = some c := by
  unfold yielded
  rw [hd]
  simp only [Option.bind_some]
  rw [Array.getD_eq_getD_getElem?] at hv
  cases h : tmps[d]? with
  | none => rw [h] at hv; simp [undef] at hv
  | some x => rw [h] at hv; simp at hv; subst hv; rfl

theorem looks_guard {ops : Array Oper} {o : Oper} {g d : Nat} {want : Bool} (hg : o.guard = some (g, want)) (hd : ((ops[g]?).bind (·.dst)) = some d) : d ∈ o.looksAt ops := by
  unfold Oper.looksAt
  rw [hg]
  simp only [List.mem_append]
  right
  cases h : ops[g]? with
  | none => rw [h] at hd; cases hd
  | some x => rw [h] at hd; simp at hd; simp [hd]
theorem looks_tmp {ops : Array Oper} {o : Oper} {t : Nat} (h : Operand.tmp t ∈ o.op.operands.toList) : t ∈ o.looksAt ops := by
  unfold Oper.looksAt
  simp only [List.mem_append, List.mem_filterMap]
  left
  exact ⟨_, h, rfl⟩

theorem Opds.rep {G : Gl} {ρ : Nat → Option V} {M : Mem} {ι : Env} {a : Act} (hg : GOk G M) : ∀ (xs : List Operand) (vs : List V), Opds G ρ xs vs → (∀ t, Operand.tmp t ∈ xs → ∀ v, ρ t = some v → RepV M ι v (a.tmps.getD t undef)) → RepVs M ι vs (xs.map a.eval)
  | [], vs, h, _ => by simp only [Opds] at h; subst h; simp [RepVs]
  | x :: xs, vs, h, ht => by
    obtain ⟨v, r, rfl, h2, h3⟩ := h
    simp only [List.map_cons, RepVs]
    refine ⟨_, _, rfl, ?_, Opds.rep hg xs r h3 (fun t hx => ht t (by simp [hx]))⟩
    cases x with
    | tmp t => exact ht t (by simp) v h2
    | const c => exact constV_rep h2
    | global g =>
      simp only [opd, Option.map_eq_some_iff] at h2
      obtain ⟨cs, e1, rfl⟩ := h2
      simp only [RepV, Act.eval]
      exact ⟨_, rfl, rfl, hg g cs e1⟩
    | func f => simp only [opd, Option.some.injEq] at h2; subst h2; simp [RepV, RepD, Act.eval]

theorem guard_wanted {ops : Array Oper} {ρ : Nat → Option V} {o : Oper} {b : Bool} {M : Mem} {ι : Env} {a : Act} (h : guardIs ops ρ o b) (ht : ∀ t, t ∈ o.looksAt ops → ∀ v, ρ t = some v → RepV M ι v (a.tmps.getD t undef)) :
    Region.wanted o (yielded ops a.tmps) = b := by
  unfold guardIs at h
  unfold Region.wanted
  cases hg : o.guard with
  | none => rw [hg] at h; exact h.symm
  | some gw =>
    obtain ⟨g, want⟩ := gw
    rw [hg] at h
    obtain ⟨d, h1, ⟨c, h2, h3⟩ | ⟨h2, h3⟩⟩ := h
    · have := ht d (looks_guard hg h1) _ h2
      simp only [RepV, RepD] at this
      simp only [yielded_of h1 this, h3]
      cases c <;> cases want <;> rfl
    · have := ht d (looks_guard hg h1) _ h2
      simp only [RepV] at this
      obtain ⟨vs, h4, _⟩ := this
      simp only [yielded_undef h1 h4, h3]
      rfl

theorem RInv.step {P : Program} {G : Gl} {N : Nat} {ops : Array Oper} {rs : List Rec} {ρ0 : Nat → Option V} {H0 : Sto} {ι0 : Env} {E : Entry} {M0 : Mem} {S : Nat → Prop} {M : Mem} {ι : Env} {H : Sto} {a : Act} {w : World}
    (hst : StepsOk P G N ops rs ρ0 H0 (fun l => ι0 l ≠ none)) (h : RInv G N ops rs ρ0 H0 ι0 E M0 S M ι H a w) {i : Nat} {r : Rec} (hi : rs[i]? = some r) (ho : ops[i]? = some r.o) (hS : ¬ S i)
    (hbef : ∀ k x, rs[k]? = some x → k ≠ i → Conf ops x r → (k < i ↔ S k)) {K : Act → World → Prop} {Q : Exit → Act → World → Prop}
    (hK : ∀ M' ι' H' a' w', RInv G N ops rs ρ0 H0 ι0 E M0 (fun k => S k ∨ k = i) M' ι' H' a' w' → K a' w') : wpOp P ops Q i K a w := by
  have hil : i < rs.length := (List.getElem?_eq_some_iff.1 hi).1
  obtain ⟨hd, hs⟩ := hst.at hi
  -- what the step reads is as in the canonical run
  have hrt : ∀ t, r.rt ops t → ∀ v, RT ρ0 (rs.take i) t = some v → RepV M ι v (a.tmps.getD t undef) := fun t ht v hv => by
    obtain ⟨m, m1, m2, m3⟩ := h.tm t
    refine m2 v ?_
    rw [← hv]
    refine RT_between fun k x hk hw => ?_
    have e := m3 k x hk hw
    by_cases hki : k = i
    · subst hki; constructor <;> (intro hc; first | exact hS (e.1 (by omega)) | omega)
    · have := hbef k x hk hki (.inl ⟨t, hw, .inl ht⟩)
      constructor <;> intro hc
      · have := this.1 (by omega); have := e.2 this; omega
      · have := this.2 (e.1 (by omega)); omega
  have hrl : ∀ l, r.rl l → H l = RH H0 (rs.take i) l := fun l hl => by
    obtain ⟨m, m1, m2, m3⟩ := h.ob l
    rw [m2]
    refine RH_between fun k x hk hw => ?_
    have e := m3 k x hk hw
    by_cases hki : k = i
    · subst hki; constructor <;> (intro hc; first | exact hS (e.1 (by omega)) | omega)
    · have := hbef k x hk hki (.inr (.inr (.inl ⟨l, hw, .inl hl⟩)))
      constructor <;> intro hc
      · have := this.1 (by omega); have := e.2 this; omega
      · have := this.2 (e.1 (by omega)); omega
  -- the state behind the step
  have after : ∀ M' ι' w' cv, Grow M ι M' ι' → (∀ l, ¬ r.wl l → ι' l = ι l) → Inv E M' ι' (H.upd r.wr) w' → RepV M' ι' r.v cv →
      RInv G N ops rs ρ0 H0 ι0 E M0 (fun k => S k ∨ k = i) M' ι' (H.upd r.wr) (a.put r.o.dst cv) w' := by
    intro M' ι' w' cv hg hlab hinv hcv
    have hsz : (a.put r.o.dst cv).tmps.size = N := by
      cases r.o.dst <;> simp [Act.put, h.sz]
    refine ⟨hinv, h.g.grow hg.mem, hsz, by cases r.o.dst <;> simp [Act.put, h.df], fun t => ?_, fun l => ?_, fun l hl => ?_, h.gr.trans hg⟩
    · by_cases hw : r.wt t
      · refine ⟨i + 1, by omega, fun v hv => ?_, fun k x hk hx => ?_⟩
        · rw [take_succ_at hi, RT_app] at hv
          have hdt : r.o.dst = some t := hw
          simp only [RT, putT, hdt, if_true, Option.some.injEq] at hv
          subst hv
          have := getD_put (a := a) (d := t) (t := t) (v := cv) (by rw [h.sz]; exact hd t hdt)
          simp only [if_true] at this
          rw [hdt, this]
          exact hcv
        · by_cases hki : k = i
          · subst hki; simp
          · have := hbef k x hk hki (.inl ⟨t, hx, .inr hw⟩)
            simp only [hki, or_false]
            rw [← this]; omega
      · obtain ⟨m, m1, m2, m3⟩ := h.tm t
        refine ⟨m, m1, fun v hv => ?_, fun k x hk hx => ?_⟩
        · have := RepV.grow hg v _ (m2 v hv)
          cases hdt : r.o.dst with
          | none => rw [← hdt]; simpa [hdt, Act.put] using this
          | some d =>
            rw [getD_put (by rw [h.sz]; exact hd d hdt), if_neg (fun e => hw (by rw [e]; exact hdt))]
            exact this
        · have : k ≠ i := fun e => by subst e; rw [hi] at hk; injection hk with hk; subst hk; exact hw hx
          simp only [this, or_false]
          exact m3 k x hk hx
    · by_cases hw : r.wl l
      · refine ⟨i + 1, by omega, ?_, fun k x hk hx => ?_⟩
        · rw [take_succ_at hi, RH_app]
          exact Sto.upd_in _ _ _ _ hw
        · by_cases hki : k = i
          · subst hki; simp
          · have := hbef k x hk hki (.inr (.inr (.inl ⟨l, hx, .inr hw⟩)))
            simp only [hki, or_false]
            rw [← this]; omega
      · obtain ⟨m, m1, m2, m3⟩ := h.ob l
        refine ⟨m, m1, by rw [Sto.upd_not _ _ _ hw]; exact m2, fun k x hk hx => ?_⟩
        have : k ≠ i := fun e => by subst e; rw [hi] at hk; injection hk with hk; subst hk; exact hw hx
        simp only [this, or_false]
        exact m3 k x hk hx
    · rw [hlab l (hl i r hi (.inr rfl))]
      exact h.lab l fun k x hk hx => hl k x hk (.inl hx)
  unfold wpOp
  rw [ho]
  simp only []
  rcases hs with ⟨hgd, hops, hop, hfp, hfr⟩ | ⟨hgd, e1, e2, e3⟩
  · rw [guard_wanted hgd (fun t ht v hv => hrt t ht v hv)]
    simp only [if_true]
    left
    refine hop E M ι H w a K Q h.inv h.g (fun l o' hl => ?_) (hops.rep h.g _ _ (fun t ht v hv => hrt t (looks_tmp ht) v hv)) (fun l hl hnl => ?_) (fun M' ι' w' cv k1 k2 k3 k4 => hK M' ι' _ _ w' (after M' ι' w' cv k1 k2 k3 k4))
    · rw [hrl l (List.mem_map.2 ⟨_, hl, rfl⟩)]
      exact hfp l o' hl
    · have hu := hfr l hl hnl
      rw [RU_iff] at hu
      simp only [not_or, not_exists, not_and, Classical.not_not] at hu
      rw [h.lab l fun k x hk hx hw => ?_]
      · exact hu.1
      · by_cases hki : k = i
        · subst hki; exact hS hx
        · have := hbef k x hk hki (.inr (.inr (.inl ⟨l, hw, .inr hl⟩)))
          have hlt := this.2 hx
          refine hu.2 x ?_ hw
          rw [List.mem_iff_getElem?]
          exact ⟨k, by rw [List.getElem?_take, if_pos hlt]; exact hk⟩
  · rw [guard_wanted hgd (fun t ht v hv => hrt t ht v hv)]
    simp only [Bool.false_eq_true, if_false]
    have hH : H.upd r.wr = H := by rw [e2]; rfl
    refine hK M ι _ _ w (after M ι w undef (Grow.refl _ _) (fun _ _ => rfl) (by rw [hH]; exact h.inv) (by rw [e3]; simp only [RepV]; exact ⟨[], rfl, by simp [RepVs]⟩))

/-- At the end all is as in the canonical run. -/
theorem RInv.final {G : Gl} {N : Nat} {ops : Array Oper} {rs : List Rec} {ρ0 : Nat → Option V} {H0 : Sto} {ι0 : Env} {E : Entry} {M0 : Mem} {S : Nat → Prop} {M : Mem} {ι : Env} {H : Sto} {a : Act} {w : World}
    (h : RInv G N ops rs ρ0 H0 ι0 E M0 S M ι H a w) (hS : ∀ k, k < rs.length → S k) :
    Inv E M ι (RH H0 rs) w ∧ (∀ t v, RT ρ0 rs t = some v → RepV M ι v (a.tmps.getD t undef)) := by
  have hH : H = RH H0 rs := funext fun l => by
    obtain ⟨m, m1, m2, m3⟩ := h.ob l
    rw [m2]
    conv => rhs; rw [← List.take_length (l := rs)]
    refine RH_between fun k x hk hw => ?_
    have hl := (List.getElem?_eq_some_iff.1 hk).1
    have := (m3 k x hk hw).2 (hS k hl)
    constructor <;> omega
  refine ⟨hH ▸ h.inv, fun t v hv => ?_⟩
  obtain ⟨m, m1, m2, m3⟩ := h.tm t
  refine m2 v ?_
  rw [← hv]
  conv => rhs; rw [← List.take_length (l := rs)]
  refine RT_between fun k x hk hw => ?_
  have hl := (List.getElem?_eq_some_iff.1 hk).1
  have := (m3 k x hk hw).2 (hS k hl)
  constructor <;> omega

theorem RInv.start {G : Gl} {N : Nat} {ops : Array Oper} {rs : List Rec} {ρ0 : Nat → Option V} {H0 : Sto} {ι0 : Env} {E : Entry} {M : Mem} {a : Act} {w : World} (hi : Inv E M ι0 H0 w) (hg : GOk G M) (hsz : a.tmps.size = N) (hd : a.defers = [])
    (ht : ∀ t v, ρ0 t = some v → RepV M ι0 v (a.tmps.getD t undef)) : RInv G N ops rs ρ0 H0 ι0 E M (fun _ => False) M ι0 H0 a w :=
  ⟨hi, hg, hsz, hd, fun t => ⟨0, Nat.zero_le _, fun v hv => ht t v (by simpa [RT] using hv), fun k r _ _ => by simp⟩, fun l => ⟨0, Nat.zero_le _, by simp [RH], fun k r _ _ => by simp⟩, fun _ _ => rfl, Grow.refl _ _⟩

/-- In the order of the text. -/
theorem region_text {P : Program} {G : Gl} {N : Nat} {ops : Array Oper} {rs : List Rec} {ρ0 : Nat → Option V} {H0 : Sto} {ι0 : Env} {E : Entry} {M0 : Mem} {Q : Exit → Act → World → Prop}
    (hst : StepsOk P G N ops rs ρ0 H0 (fun l => ι0 l ≠ none)) (ho : rs.map (·.o) = ops.toList)
    (hQ : ∀ M ι H a w, RInv G N ops rs ρ0 H0 ι0 E M0 (fun k => k < rs.length) M ι H a w → Q .normal a w) :
    ∀ (d i : Nat), i + d = rs.length → ∀ M ι H a w, RInv G N ops rs ρ0 H0 ι0 E M0 (fun k => k < i) M ι H a w → wpOps P ops Q (List.range' i d) a w := by
  intro d
  induction d with
  | zero => intro i hi M ι H a w h; simp only [List.range'_zero, wpOps]; exact hQ M ι H a w (by rw [← hi]; simpa using h)
  | succ d ih =>
    intro i hi M ι H a w h
    rw [List.range'_succ, wpOps_cons]
    have hlt : i < rs.length := by omega
    have hr : rs[i]? = some rs[i] := List.getElem?_eq_getElem hlt
    have hoi : ops[i]? = some rs[i].o := by
      rw [← Array.getElem?_toList, ← ho, List.getElem?_map, hr]; rfl
    refine h.step hst hr hoi (by omega) (fun k x _ hki _ => Iff.rfl) (fun M' ι' H' a' w' h' => ?_)
    refine ih (i + 1) (by omega) M' ι' H' a' w' ?_
    have : (fun k => k < i ∨ k = i) = fun k => k < i + 1 := funext fun k => propext (by omega)
    rwa [this] at h'

/-- One operation hangs on another one, by the edges that always bind. -/
inductive Anc (ops : Array Oper) : Nat → Nat → Prop
  | edge {j k o e} : ops[k]? = some o → e ∈ o.after.toList → Region.binds .any e = true → e.on = j → Anc ops j k
  | trans {i j k} : Anc ops i j → Anc ops j k → Anc ops i k

def hangs (ops : Array Oper) : Nat → Nat → Nat → Bool
  | 0, _, _ => false
  | f + 1, j, k => match ops[k]? with
    | none => false
    | some o => o.after.toList.any (fun e => Region.binds .any e && e.on == j) || o.after.toList.any (fun e => Region.binds .any e && hangs ops f j e.on)
theorem hangs_anc {ops : Array Oper} : ∀ (f j k : Nat), hangs ops f j k = true → Anc ops j k
  | 0, _, _, h => by cases h
  | f + 1, j, k, h => by
    unfold hangs at h
    split at h
    · cases h
    · rename_i o ho
      simp only [Bool.or_eq_true, List.any_eq_true, Bool.and_eq_true, beq_iff_eq] at h
      rcases h with ⟨e, h1, h2, h3⟩ | ⟨e, h1, h2, h3⟩
      · exact .edge ho h1 h2 h3
      · exact .trans (hangs_anc f j e.on h3) (.edge ho h1 h2 rfl)

/-- The footprint of a step, as numbers. -/
structure FP where
  rt : List Nat
  wt : Option Nat
  rl : List Nat
  wl : List Nat
def Rec.foot (ops : Array Oper) (r : Rec) : FP := ⟨r.o.looksAt ops, r.o.dst, r.fp.map (·.1), r.wr.map (·.1)⟩
def hit (xs ys : List Nat) : Bool := xs.any fun x => ys.any fun y => Nat.beq x y
theorem hit_of {xs ys : List Nat} {x : Nat} (h : x ∈ xs) (k : x ∈ ys) : hit xs ys = true := by
  simp only [hit, List.any_eq_true]
  exact ⟨x, h, x, k, Nat.beq_refl x⟩
def FP.conf (a b : FP) : Bool :=
  hit a.wt.toList (b.rt ++ b.wt.toList) || hit b.wt.toList a.rt || hit a.wl (b.rl ++ b.wl) || hit b.wl a.rl
theorem FP.conf_of {ops : Array Oper} {a b : Rec} (h : Conf ops a b) : (a.foot ops).conf (b.foot ops) = true := by
  simp only [FP.conf, Rec.foot, Bool.or_eq_true]
  rcases h with ⟨t, h1, h2⟩ | ⟨t, h1, h2⟩ | ⟨l, h1, h2⟩ | ⟨l, h1, h2⟩
  · left; left; left
    refine hit_of (x := t) (by simp [Rec.wt] at h1; simp [h1]) ?_
    rcases h2 with h2 | h2
    · simp; exact .inl h2
    · simp [Rec.wt] at h2; simp [h2]
  · left; left; right
    exact hit_of (x := t) (by simp [Rec.wt] at h1; simp [h1]) h2
  · left; right
    refine hit_of (x := l) h1 ?_
    rcases h2 with h2 | h2 <;> simp only [List.mem_append]
    · exact .inl h2
    · exact .inr h2
  · right; exact hit_of (x := l) h1 h2

def chkOne (ops : Array Oper) (k : Nat) (b : FP) : Nat → List FP → Bool
  | _, [] => true
  | j, a :: r => (!(a.conf b || b.conf a) || hangs ops 6 j k) && chkOne ops k b (j + 1) r
def chkAll (ops : Array Oper) : Nat → List FP → List FP → Bool
  | _, _, [] => true
  | k, prev, b :: r => chkOne ops k b 0 prev && chkAll ops (k + 1) (prev ++ [b]) r
def edgesOk : Nat → List Oper → Bool
  | _, [] => true
  | k, o :: r => o.after.toList.all (fun e => !Region.binds .any e || Nat.blt e.on k) && edgesOk (k + 1) r
/-- Whatever may not change places is bound to its order. -/
def chk (ops : Array Oper) (fs : List FP) : Bool := edgesOk 0 ops.toList && chkAll ops 0 [] fs

theorem chkOne_at {ops : Array Oper} {k : Nat} {b : FP} : ∀ {j : Nat} {prev : List FP}, chkOne ops k b j prev = true → ∀ i a, prev[i]? = some a → (a.conf b || b.conf a) = true → Anc ops (j + i) k
  | _, [], _, i, a, h, _ => by simp at h
  | j, x :: r, h, i, a, hi, hc => by
    simp only [chkOne, Bool.and_eq_true, Bool.or_eq_true, Bool.not_eq_true'] at h
    cases i with
    | zero =>
      simp at hi; subst hi
      rcases h.1 with h1 | h1
      · rw [hc] at h1; cases h1
      · exact hangs_anc _ _ _ h1
    | succ i =>
      simp at hi
      have := chkOne_at h.2 i a hi hc
      rwa [show j + 1 + i = j + (i + 1) by omega] at this
theorem chkAll_at {ops : Array Oper} : ∀ {fs : List FP} {k : Nat} {prev : List FP}, prev.length = k → chkAll ops k prev fs = true → ∀ i j a b, i < j → k ≤ j → (prev ++ fs)[i]? = some a → (prev ++ fs)[j]? = some b → (a.conf b || b.conf a) = true → Anc ops i j
  | [], k, prev, hk, _, i, j, a, b, hij, hkj, _, hb, _ => by
    simp at hb
    have := (List.getElem?_eq_some_iff.1 hb).1; omega
  | f :: fs, k, prev, hk, h, i, j, a, b, hij, hkj, ha, hb, hc => by
    simp only [chkAll, Bool.and_eq_true] at h
    by_cases hj : j = k
    · subst hj
      rw [List.getElem?_append_right (by omega)] at hb
      simp [hk] at hb; subst hb
      rw [List.getElem?_append_left (by omega)] at ha
      simpa using chkOne_at h.1 i a ha hc
    · refine chkAll_at (fs := fs) (k := k + 1) (prev := prev ++ [f]) (by simp [hk]) h.2 i j a b hij (by omega) ?_ ?_ hc
      · simpa using ha
      · simpa using hb
theorem edgesOk_at : ∀ {os : List Oper} {k : Nat}, edgesOk k os = true → ∀ i o, os[i]? = some o → ∀ e ∈ o.after.toList, Region.binds .any e = true → e.on < k + i
  | [], _, _, i, o, h, _, _, _ => by simp at h
  | x :: os, k, h, i, o, hi, e, he, hb => by
    simp only [edgesOk, Bool.and_eq_true, List.all_eq_true, Bool.or_eq_true, Bool.not_eq_true'] at h
    cases i with
    | zero =>
      simp at hi; subst hi
      rcases h.1 e he with h1 | h1
      · rw [hb] at h1; cases h1
      · have : e.on < k := by simpa [Nat.blt_eq] using h1
        omega
    | succ i =>
      simp at hi
      have := edgesOk_at h.2 i o hi e he hb
      omega

/-- In whatever order. -/
theorem region_any {P : Program} {G : Gl} {N : Nat} {ops : Array Oper} {rs : List Rec} {ρ0 : Nat → Option V} {H0 : Sto} {ι0 : Env} {E : Entry} {M0 : Mem} {Q : Exit → Act → World → Prop}
    (hst : StepsOk P G N ops rs ρ0 H0 (fun l => ι0 l ≠ none)) (ho : rs.map (·.o) = ops.toList) (hc : chk ops (rs.map (·.foot ops)) = true)
    (hQ : ∀ M ι H a w, RInv G N ops rs ρ0 H0 ι0 E M0 (fun _ => True) M ι H a w → Q .normal a w) :
    ∀ (fuel : Nat) (listed : Array Bool), listed.size = ops.size → ((List.range ops.size).filter fun i => !listed.getD i true).length ≤ fuel →
      (∀ i o e, ops[i]? = some o → listed.getD i false = true → e ∈ o.after.toList → Region.binds .any e = true → listed.getD e.on false = true) →
      ∀ M ι H a w, RInv G N ops rs ρ0 H0 ι0 E M0 (fun k => listed.getD k false = true) M ι H a w → wpAny P .any ops Q fuel listed a w := by
  have hlen : rs.length = ops.size := by rw [← Array.length_toList, ← ho, List.length_map]
  simp only [chk, Bool.and_eq_true] at hc
  obtain ⟨hc1, hc2⟩ := hc
  have hedge : ∀ i o e, ops[i]? = some o → e ∈ o.after.toList → Region.binds .any e = true → e.on < i := fun i o e h1 h2 h3 => by
    have := edgesOk_at hc1 i o (by rw [Array.getElem?_toList]; exact h1) e h2 h3; omega
  have hconf : ∀ i j a b, i < j → rs[i]? = some a → rs[j]? = some b → (Conf ops a b ∨ Conf ops b a) → Anc ops i j := fun i j a b hij ha hb hcf => by
    refine chkAll_at (prev := []) rfl hc2 i j (a.foot ops) (b.foot ops) hij (Nat.zero_le _) (by simp [ha]) (by simp [hb]) ?_
    rw [Bool.or_eq_true]
    rcases hcf with h | h
    · exact .inl (FP.conf_of h)
    · exact .inr (FP.conf_of h)
  -- nothing is ready: all is done
  have hdone : ∀ (listed : Array Bool), listed.size = ops.size → Region.ready .any ops listed = [] → ∀ i, i < ops.size → listed.getD i false = true := by
    intro listed hsz hr i
    induction i using Nat.strongRecOn with
    | _ i ih =>
      intro hi
      cases hl : listed.getD i false with
      | true => rfl
      | false =>
        exfalso
        have : i ∈ Region.ready .any ops listed := by
          unfold Region.ready
          simp only [List.mem_filter, List.mem_range, Bool.and_eq_true, Bool.not_eq_true']
          refine ⟨hi, ?_, ?_⟩
          · have hs : i < listed.size := by omega
            simp only [Array.getD_eq_getD_getElem?, Array.getElem?_eq_getElem hs, Option.getD_some] at hl ⊢
            exact hl
          · rw [Array.getElem?_eq_getElem hi]
            simp only [Option.map_some, Option.getD_some, Array.all_eq_true_iff_forall_mem]
            intro e he
            by_cases hb : Region.binds .any e = true
            · have hlt := hedge i ops[i] e (Array.getElem?_eq_getElem hi) (by simpa using he) hb
              have := ih e.on hlt (by omega)
              simp [this]
            · simp [hb]
        rw [hr] at this; cases this
  intro fuel
  induction fuel with
  | zero =>
    intro listed hsz hcnt hdc M ι H a w h
    have hall : ∀ i, i < ops.size → listed.getD i true = true := fun i hi => by
      cases hl : listed.getD i true with
      | true => rfl
      | false =>
        have : i ∈ (List.range ops.size).filter fun i => !listed.getD i true := List.mem_filter.2 ⟨List.mem_range.2 hi, by rw [hl]; rfl⟩
        have h0 : (List.range ops.size).filter (fun i => !listed.getD i true) = [] := List.eq_nil_of_length_eq_zero (by omega)
        rw [h0] at this; cases this
    have hr : Region.ready .any ops listed = [] := by
      unfold Region.ready
      rw [List.filter_eq_nil_iff]
      intro i hi
      simp only [List.mem_range] at hi
      simp [hall i hi]
    refine ⟨hr, hQ M ι H a w ?_⟩
    have hfin := hdone listed hsz hr
    refine ⟨h.inv, h.g, h.sz, h.df, fun t => ?_, fun l => ?_, fun l hl => h.lab l fun k x hk _ => hl k x hk trivial, h.gr⟩
    · obtain ⟨m, m1, m2, m3⟩ := h.tm t
      exact ⟨m, m1, m2, fun k r hk hw => by
        have := (List.getElem?_eq_some_iff.1 hk).1
        have := m3 k r hk hw
        simp only [hfin k (by omega)] at this
        exact this⟩
    · obtain ⟨m, m1, m2, m3⟩ := h.ob l
      exact ⟨m, m1, m2, fun k r hk hw => by
        have := (List.getElem?_eq_some_iff.1 hk).1
        have := m3 k r hk hw
        simp only [hfin k (by omega)] at this
        exact this⟩
  | succ fuel ih =>
    intro listed hsz hcnt hdc M ι H a w h
    refine ⟨fun hr => hQ M ι H a w ?_, fun i hi => ?_⟩
    · have hfin := hdone listed hsz hr
      refine ⟨h.inv, h.g, h.sz, h.df, fun t => ?_, fun l => ?_, fun l hl => h.lab l fun k x hk _ => hl k x hk trivial, h.gr⟩
      · obtain ⟨m, m1, m2, m3⟩ := h.tm t
        exact ⟨m, m1, m2, fun k r hk hw => by
          have := (List.getElem?_eq_some_iff.1 hk).1
          have := m3 k r hk hw
          simp only [hfin k (by omega)] at this
          exact this⟩
      · obtain ⟨m, m1, m2, m3⟩ := h.ob l
        exact ⟨m, m1, m2, fun k r hk hw => by
          have := (List.getElem?_eq_some_iff.1 hk).1
          have := m3 k r hk hw
          simp only [hfin k (by omega)] at this
          exact this⟩
    · unfold Region.ready at hi
      simp only [List.mem_filter, List.mem_range, Bool.and_eq_true, Bool.not_eq_true'] at hi
      obtain ⟨hin, hun, hall⟩ := hi
      have hlt : i < listed.size := by omega
      have hun' : listed.getD i false = false := by
        simp only [Array.getD_eq_getD_getElem?, Array.getElem?_eq_getElem hlt, Option.getD_some] at hun ⊢; exact hun
      have hri : i < rs.length := by omega
      have hr : rs[i]? = some rs[i] := List.getElem?_eq_getElem hri
      have hoi : ops[i]? = some rs[i].o := by
        rw [← Array.getElem?_toList, ← ho, List.getElem?_map, hr]; rfl
      rw [hoi] at hall
      simp only [Option.map_some, Option.getD_some, Array.all_eq_true_iff_forall_mem] at hall
      have hedges : ∀ e ∈ rs[i].o.after.toList, Region.binds .any e = true → listed.getD e.on false = true := fun e he hb => by
        have := hall e (by simpa using he)
        simpa [hb] using this
      -- what is listed is closed downwards
      have hancl : ∀ j k, Anc ops j k → listed.getD k false = true → listed.getD j false = true := by
        intro j k hjk
        induction hjk with
        | edge h1 h2 h3 h4 => intro hk; subst h4; exact hdc _ _ _ h1 hk h2 h3
        | trans _ _ ih1 ih2 => intro hk; exact ih1 (ih2 hk)
      have hanc : ∀ j k, Anc ops j k → k = i → listed.getD j false = true := by
        intro j k hjk
        induction hjk with
        | edge h1 h2 h3 h4 =>
          intro hk; subst hk; subst h4
          rw [hoi] at h1; injection h1 with h1; subst h1
          exact hedges _ h2 h3
        | trans h1 _ _ ih2 => intro hk; exact hancl _ _ h1 (ih2 hk)
      refine h.step hst hr hoi (by rw [hun']; simp) (fun k x hk hki hcf => ?_) (fun M' ι' H' a' w' h' => ?_)
      · constructor
        · intro hlt'
          exact hanc k i (hconf k i x rs[i] hlt' hk hr (.inl hcf)) rfl
        · intro hl
          rcases Nat.lt_or_ge k i with h1 | h1
          · exact h1
          · exfalso
            have := hancl i k (hconf i k rs[i] x (by omega) hr hk (.inr hcf)) hl
            rw [hun'] at this; cases this
      · have hget : ∀ k d, (listed.setIfInBounds i true).getD k d = if k = i then true else listed.getD k d := fun k d => by
          simp only [Array.getD_eq_getD_getElem?]
          by_cases e : k = i
          · subst e; simp [hlt]
          · rw [Array.getElem?_setIfInBounds_ne (fun x => e x.symm), if_neg e]
        refine ih (listed.setIfInBounds i true) (by simp [hsz]) ?_ ?_ M' ι' H' a' w' ?_
        · have : ((List.range ops.size).filter fun k => !(listed.setIfInBounds i true).getD k true).length < ((List.range ops.size).filter fun k => !listed.getD k true).length := by
            have hsub : ((List.range ops.size).filter fun k => !(listed.setIfInBounds i true).getD k true) = ((List.range ops.size).filter fun k => !listed.getD k true).filter (fun k => decide (k ≠ i)) := by
              rw [List.filter_filter]
              refine List.filter_congr fun k _ => ?_
              rw [hget]
              by_cases e : k = i <;> simp [e]
            rw [hsub]
            refine Nat.lt_of_le_of_ne (List.length_filter_le _ _) fun e => ?_
            have := List.length_filter_eq_length_iff.1 e i (List.mem_filter.2 ⟨List.mem_range.2 hin, by rw [hun]; rfl⟩)
            simp at this
          omega
        · intro k o e ho' hk he hb
          rw [hget] at hk ⊢
          by_cases hki : k = i
          · subst hki
            rw [hoi] at ho'; injection ho' with ho'; subst ho'
            split
            · rfl
            · exact hedges e he hb
          · rw [if_neg hki] at hk
            split
            · rfl
            · exact hdc k o e ho' hk he hb
        · have : (fun k => listed.getD k false = true ∨ k = i) = fun k => (listed.setIfInBounds i true).getD k false = true := funext fun k => propext (by
            rw [hget]; by_cases e : k = i <;> simp [e])
          rwa [this] at h'
end Go.AM

/-
  The abstract store of a walk: labelled objects, and the one law by which a step of the machine turns them.
-/
import Derived.Test.YtgilcibfknafiaaGreatDoorAmA
set_option linter.unusedVariables false
set_option linter.unusedSimpArgs false
namespace Go.AM
open Go Go.RowKit

/- An object of the call's own: cells, a row that is appended to (its first n elements never turn), a map. -/
/-- A map's entries, in the order in which they came; 'kc' says of what kind the keys are. -/
structure MapC where
  kc : Nat
  es : List (D × V)
def kcOk : Nat → D → Bool
  | 1, .int .i64 _ => true
  | 2, .bool _ => true
  | 3, .str _ => true
  | _, _ => false
inductive O where
  | cells (vs : List V) (t : TypeId)
  | row (n sz : Nat) (t : TypeId)
  | map (es : MapC)

def RepEs (M : Mem) : List (D × V) → List MapEntry → Prop
  | [], l => l = []
  | (k, x) :: es, l => ∃ e r, l = e :: r ∧ RepD M k e.key ∧ x.on [] = true ∧ RepV M (fun _ => none) x e.val ∧ RepEs M es r
def RepMap (M : Mem) (m : MapC) (l : List MapEntry) : Prop := (∀ p ∈ m.es, kcOk m.kc p.1 = true) ∧ RepEs M m.es l

theorem RepEs.grow {M M' : Mem} (h : ∀ a v, M a = some v → M' a = some v) : ∀ {es : List (D × V)} {l : List MapEntry}, RepEs M es l → RepEs M' es l
  | [], _, hv => hv
  | (k, x) :: es, l, hv => by
    obtain ⟨e, r, h1, h2, h3, h4, h5⟩ := hv
    exact ⟨e, r, h1, RepD.grow h _ _ h2, h3, RepV.grow ⟨h, fun l bd hl => by cases hl⟩ _ _ h4, RepEs.grow h h5⟩
theorem RepMap.grow {M M' : Mem} (h : ∀ a v, M a = some v → M' a = some v) {es : MapC} {l : List MapEntry} (k : RepMap M es l) : RepMap M' es l := ⟨k.1, RepEs.grow h k.2⟩

/-- The entries of a map bear different numbers, all below its clock. -/
def BornOk (es : List MapEntry) (clock : Nat) : Prop := (es.map (·.born)).Nodup ∧ ∀ e ∈ es, e.born < clock

def ORep (M : Mem) (ι : Env) (w : World) (bd : Bind) : O → Prop
  | .cells vs t => bd.tag = .cells ∧ ∃ (b : Nat) (cs : List Value), bd.blk = some b ∧ w.heap[b]? = some (.cells cs.toArray t (0, 0)) ∧ RepVs M ι vs cs ∧ ∀ x ∈ cs, x.oneCell' = true
  | .row n sz t => bd.tag = .row ∧ bd.n = n ∧ n ≤ bd.cap ∧ ∀ b, bd.blk = some b → ∃ cs : Array Value, w.heap[b]? = some (.cells cs t (0, 0)) ∧ cs.size = bd.cap * sz
  | .map es => bd.tag = .map ∧ ∃ (b : Nat) (ms : List MapEntry) (clock : Nat), bd.blk = some b ∧ w.heap[b]? = some (.map ms.toArray clock) ∧ RepMap M es ms ∧ BornOk ms clock

def O.holds : O → Nat → Prop
  | .cells _ _, _ => False
  | .row n sz _, off => off < n * sz
  | .map _, _ => False

abbrev Sto := Nat → Option O

/-- Where a call began: what was known, the world, and the blocks that were handed to it to be turned. -/
structure Entry where
  M : Mem
  w : World
  bs : Nat → Prop
def Entry.blk (E : Entry) (k : Nat) : Prop := E.w.heap.size ≤ k ∨ E.bs k

structure Inv (E : Entry) (M : Mem) (ι : Env) (H : Sto) (w : World) : Prop where
  mem : ∀ a v, M a = some v → w.cell? a = some v
  obj : ∀ l o, H l = some o → ∃ bd, ι l = some bd ∧ ORep M ι w bd o
  inj : ∀ l l' o o' bd bd' b, H l = some o → H l' = some o' → ι l = some bd → ι l' = some bd' → bd.blk = some b → bd'.blk = some b → l = l'
  sep : ∀ l o bd b, H l = some o → ι l = some bd → bd.blk = some b → ∀ a v, M a = some v → a.block = b → o.holds a.off
  own : ∀ l o bd b, H l = some o → ι l = some bd → bd.blk = some b → E.blk b
  le : ∀ a v, E.M a = some v → M a = some v
  new : ∀ a v, M a = some v → E.M a = none → E.blk a.block
  size : E.w.heap.size ≤ w.heap.size
  os : w.os = E.w.os
  tape : w.tape = E.w.tape
  output : w.output = E.w.output
  frame : ∀ k, ¬ E.blk k → w.heap[k]? = E.w.heap[k]?

theorem heap_lt {w : World} {b : Nat} {o : Obj} (h : w.heap[b]? = some o) : b < w.heap.size := (Array.getElem?_eq_some_iff.1 h).1
theorem cell_lt {w : World} {a : Addr} {v : Value} (h : w.cell? a = some v) : a.block < w.heap.size := by
  unfold World.cell? at h
  split at h
  · rename_i hb; exact heap_lt hb
  · cases h
theorem cell_spot {w : World} {a : Addr} {v : Value} (h : w.cell? a = some v) : a.spot = none := by
  unfold World.cell? at h
  split at h
  · by_cases hs : a.spot.isSome <;> simp_all
  · cases h

theorem Inv.obj_lt {E M ι H w} (h : Inv E M ι H w) {l o bd b} (ho : H l = some o) (hb : ι l = some bd) (hk : bd.blk = some b) : b < w.heap.size := by
  obtain ⟨bd', e, hr⟩ := h.obj l o ho
  rw [hb] at e; injection e with e; subst e
  cases o with
  | cells vs t => obtain ⟨_, b', cs, e1, e2, _⟩ := hr; rw [hk] at e1; injection e1 with e1; subst e1; exact heap_lt e2
  | row n sz t => obtain ⟨_, _, _, hr⟩ := hr; obtain ⟨cs, e2, _⟩ := hr b hk; exact heap_lt e2
  | map es => obtain ⟨_, b', ms, ck, e1, e2, _⟩ := hr; rw [hk] at e1; injection e1 with e1; subst e1; exact heap_lt e2

theorem ORep.keep {M ι w M' ι' w' bd o} (h : ORep M ι w bd o) (hg : Grow M ι M' ι') (hh : ∀ b, bd.blk = some b → w'.heap[b]? = w.heap[b]?) : ORep M' ι' w' bd o := by
  cases o with
  | cells vs t => obtain ⟨h0, b, cs, h1, h2, h3, h4⟩ := h; exact ⟨h0, b, cs, h1, by rw [hh b h1]; exact h2, RepVs.grow hg _ _ h3, h4⟩
  | row n sz t => obtain ⟨h0, h1, h2, h3⟩ := h; exact ⟨h0, h1, h2, fun b hb => by rw [hh b hb]; exact h3 b hb⟩
  | map es => obtain ⟨h0, b, ms, ck, h1, h2, h3, h4⟩ := h; exact ⟨h0, b, ms, ck, h1, by rw [hh b h1]; exact h2, RepMap.grow hg.mem h3, h4⟩

/-- The one law: a step touches the blocks T (new ones, and those of the labels S) and no other. -/
theorem Inv.upd {E M ι H w} (h : Inv E M ι H w) {M' : Mem} {ι' : Env} {H' : Sto} {w' : World} (S T : Nat → Prop)
    (hg : Grow M ι M' ι')
    (hT : ∀ k, ¬ T k → w'.heap[k]? = w.heap[k]?)
    (hTb : ∀ k, T k → w.heap.size ≤ k ∨ ∃ l o bd, S l ∧ H l = some o ∧ ι l = some bd ∧ bd.blk = some k)
    (hS : ∀ l, ¬ S l → H' l = H l ∧ (∀ o, H l = some o → ι' l = ι l))
    (hO : ∀ l o, S l → H' l = some o → ∃ bd, ι' l = some bd ∧ ORep M' ι' w' bd o ∧ (∀ b, bd.blk = some b → T b ∧ ∀ a v, M' a = some v → a.block = b → o.holds a.off))
    (hI : ∀ l l' o o' bd bd' b, S l → S l' → H' l = some o → H' l' = some o' → ι' l = some bd → ι' l' = some bd' → bd.blk = some b → bd'.blk = some b → l = l')
    (hN : ∀ a v, M' a = some v → M a = none → T a.block)
    (hC : ∀ a v, M' a = some v → T a.block → w'.cell? a = some v)
    (hz : w.heap.size ≤ w'.heap.size) (h1 : w'.os = w.os) (h2 : w'.tape = w.tape) (h3 : w'.output = w.output) :
    Inv E M' ι' H' w' := by
  have hTE : ∀ k, T k → E.blk k := fun k hk => by
    rcases hTb k hk with h' | ⟨l, o, bd, _, e1, e2, e3⟩
    · exact .inl (Nat.le_trans h.size h')
    · exact h.own l o bd k e1 e2 e3
  have hout : ∀ l o bd b, ¬ S l → H l = some o → ι l = some bd → bd.blk = some b → ¬ T b := fun l o bd b hs ho hb hk ht => by
    rcases hTb b ht with h' | ⟨l', o', bd', hs', e1, e2, e3⟩
    · have := h.obj_lt ho hb hk; omega
    · have := h.inj l l' o o' bd bd' b ho e1 hb e2 hk e3
      subst this; exact hs hs'
  have hold : ∀ a v, M' a = some v → ¬ T a.block → M a = some v := fun a v hv ht => by
    cases hm : M a with
    | none => exact absurd (hN a v hv hm) ht
    | some u => have := hg.mem a u hm; rw [hv] at this; injection this with this; subst this; rfl
  constructor
  · intro a v hv
    by_cases ht : T a.block
    · exact hC a v hv ht
    · have := h.mem a v (hold a v hv ht)
      rwa [World.cell?_of_block (w := w) (hT _ ht)]
  · intro l o ho
    by_cases hs : S l
    · obtain ⟨bd, e1, e2, _⟩ := hO l o hs ho; exact ⟨bd, e1, e2⟩
    · obtain ⟨e1, e2⟩ := hS l hs
      rw [e1] at ho
      obtain ⟨bd, e3, e4⟩ := h.obj l o ho
      exact ⟨bd, by rw [e2 o ho]; exact e3, e4.keep hg fun b hb => hT b (hout l o bd b hs ho e3 hb)⟩
  · intro l l' o o' bd bd' b ho ho' hb hb' hk hk'
    by_cases hs : S l <;> by_cases hs' : S l'
    · exact hI l l' o o' bd bd' b hs hs' ho ho' hb hb' hk hk'
    · obtain ⟨bd1, e1, _, e3⟩ := hO l o hs ho
      rw [hb] at e1; injection e1 with e1; subst e1
      obtain ⟨f1, f2⟩ := hS l' hs'
      rw [f1] at ho'; rw [f2 o' ho'] at hb'
      exact absurd (e3 b hk).1 (hout l' o' bd' b hs' ho' hb' hk')
    · obtain ⟨bd1, e1, _, e3⟩ := hO l' o' hs' ho'
      rw [hb'] at e1; injection e1 with e1; subst e1
      obtain ⟨f1, f2⟩ := hS l hs
      rw [f1] at ho; rw [f2 o ho] at hb
      exact absurd (e3 b hk').1 (hout l o bd b hs ho hb hk)
    · obtain ⟨f1, f2⟩ := hS l hs
      obtain ⟨g1, g2⟩ := hS l' hs'
      rw [f1] at ho; rw [g1] at ho'; rw [f2 o ho] at hb; rw [g2 o' ho'] at hb'
      exact h.inj l l' o o' bd bd' b ho ho' hb hb' hk hk'
  · intro l o bd b ho hb hk a v hv hab
    by_cases hs : S l
    · obtain ⟨bd1, e1, _, e3⟩ := hO l o hs ho
      rw [hb] at e1; injection e1 with e1; subst e1
      exact (e3 b hk).2 a v hv hab
    · obtain ⟨f1, f2⟩ := hS l hs
      rw [f1] at ho; rw [f2 o ho] at hb
      have ht := hout l o bd b hs ho hb hk
      exact h.sep l o bd b ho hb hk a v (hold a v hv (by rw [hab]; exact ht)) hab
  · intro l o bd b ho hb hk
    by_cases hs : S l
    · obtain ⟨bd1, e1, _, e3⟩ := hO l o hs ho
      rw [hb] at e1; injection e1 with e1; subst e1
      exact hTE b (e3 b hk).1
    · obtain ⟨f1, f2⟩ := hS l hs
      rw [f1] at ho; rw [f2 o ho] at hb
      exact h.own l o bd b ho hb hk
  · exact fun a v hv => hg.mem a v (h.le a v hv)
  · intro a v hv he
    cases hm : M a with
    | none => exact hTE _ (hN a v hv hm)
    | some u => exact h.new a u hm he
  · exact Nat.le_trans h.size hz
  · exact h1.trans h.os
  · exact h2.trans h.tape
  · exact h3.trans h.output
  · exact fun k hk => (hT k (fun ht => hk (hTE k ht))).trans (h.frame k hk)

/-- A draw turns nothing. -/
theorem Inv.of_heap {E M ι H w w'} (h : Inv E M ι H w) (hh : w'.heap = w.heap) (h1 : w'.os = w.os) (h2 : w'.tape = w.tape) (h3 : w'.output = w.output) : Inv E M ι H w' :=
  h.upd (fun _ => False) (fun _ => False) (Grow.refl _ _) (fun k _ => by rw [hh]) (fun _ h => h.elim) (fun l _ => ⟨rfl, fun _ _ => rfl⟩) (fun _ _ h => h.elim) (fun _ _ _ _ _ _ _ h => h.elim)
    (fun a v hv hn => by rw [hv] at hn; cases hn) (fun _ _ _ h => h.elim) (by rw [hh]; exact Nat.le_refl _) h1 h2 h3
theorem Inv.drew {E M ι H w} (h : Inv E M ι H w) (n : Nat) : Inv E M ι H { w with drawn := n } := h.of_heap rfl rfl rfl rfl

/-- Labels may be forgotten, objects too. -/
theorem Inv.forget {E M ι H w} (h : Inv E M ι H w) (H' : Sto) (hH : ∀ l o, H' l = some o → H l = some o) : Inv E M ι H' w :=
  ⟨h.mem, fun l o ho => h.obj l o (hH l o ho), fun l l' o o' bd bd' b ho ho' => h.inj l l' o o' bd bd' b (hH _ _ ho) (hH _ _ ho'), fun l o bd b ho => h.sep l o bd b (hH _ _ ho),
    fun l o bd b ho => h.own l o bd b (hH _ _ ho), h.le, h.new, h.size, h.os, h.tape, h.output, h.frame⟩

/-- Assoc lists, the newest first. -/
def look {α : Type} : List (Nat × α) → Nat → Option α
  | [], _ => none
  | (k, v) :: r, n => match Nat.decEq k n with
    | .isTrue _ => some v
    | .isFalse _ => look r n

theorem look_cons {α : Type} (k : Nat) (v : α) (r : List (Nat × α)) (n : Nat) : look ((k, v) :: r) n = if k = n then some v else look r n := by
  simp only [look]
  split
  · rename_i h _; simp [h]
  · rename_i h _; simp [h]

def Env.set (ι : Env) (l : Nat) (bd : Bind) : Env := fun k => if k = l then some bd else ι k
theorem Env.set_same (ι : Env) (l : Nat) (bd : Bind) : ι.set l bd l = some bd := by simp [Env.set]
theorem Env.set_other (ι : Env) {l k : Nat} (bd : Bind) (h : k ≠ l) : ι.set l bd k = ι k := by simp [Env.set, h]
theorem Grow.fresh {M M' : Mem} {ι : Env} (hm : ∀ a v, M a = some v → M' a = some v) {l : Nat} (hl : ι l = none) (bd : Bind) : Grow M ι M' (ι.set l bd) :=
  ⟨hm, fun k b hk => by
    by_cases e : k = l
    · subst e; rw [hl] at hk; cases hk
    · exact ⟨b, by rw [Env.set_other _ _ e]; exact hk, .inl rfl⟩⟩
def Sto.set (H : Sto) (l : Nat) (o : Option O) : Sto := fun k => if k = l then o else H k
theorem Sto.set_same (H : Sto) (l : Nat) (o : Option O) : H.set l o l = o := by simp [Sto.set]
theorem Sto.set_other (H : Sto) {l k : Nat} (o : Option O) (h : k ≠ l) : H.set l o k = H k := by simp [Sto.set, h]

theorem heap_push_lt (w : World) (o : Obj) {k : Nat} (h : k < w.heap.size) : (w.alloc o).heap[k]? = w.heap[k]? := Below.heap_alloc w o k h
theorem heap_push_size (w : World) (o : Obj) : (w.alloc o).heap.size = w.heap.size + 1 := by
  show (w.heap.push o).size = _
  simp
theorem heap_push_new (w : World) (o : Obj) : (w.alloc o).heap[w.heap.size]? = some o := by
  show (w.heap.push o)[w.heap.size]? = _
  simp
theorem heap_push_ne (w : World) (o : Obj) {k : Nat} (h : k ≠ w.heap.size) : (w.alloc o).heap[k]? = w.heap[k]? := by
  by_cases hk : k < w.heap.size
  · exact heap_push_lt w o hk
  · rw [Array.getElem?_eq_none (by rw [heap_push_size]; omega), Array.getElem?_eq_none (by omega)]

/-- A new object of cells. -/
theorem Inv.alloc {E M ι H w} (h : Inv E M ι H w) {l : Nat} (hl : ι l = none) (t : TypeId) {vs : List V} {cs : List Value} (hr : RepVs M ι vs cs) (h1 : ∀ x ∈ cs, x.oneCell' = true) :
    Inv E M (ι.set l ⟨.cells, some w.heap.size, 0, 0⟩) (H.set l (some (.cells vs t))) (w.alloc (.cells cs.toArray t)) := by
  have hg : Grow M ι M (ι.set l ⟨.cells, some w.heap.size, 0, 0⟩) := Grow.fresh (fun _ _ h => h) hl _
  refine h.upd (fun k => k = l) (fun k => k = w.heap.size) hg (fun k hk => heap_push_ne w _ hk) (fun k hk => .inl (by omega)) (fun k hk => ⟨Sto.set_other _ _ hk, fun _ _ => Env.set_other _ _ hk⟩) ?_ ?_ ?_ ?_ (by rw [heap_push_size]; omega) rfl rfl rfl
  · rintro k o rfl ho
    rw [Sto.set_same] at ho; injection ho with ho; subst ho
    refine ⟨_, Env.set_same _ _ _, ⟨rfl, w.heap.size, cs, rfl, heap_push_new w _, RepVs.grow hg _ _ hr, h1⟩, ?_⟩
    rintro b hb
    injection hb with hb; subst hb
    refine ⟨rfl, fun a v hv hab => ?_⟩
    have := cell_lt (h.mem a v hv); omega
  · rintro k k' _ _ _ _ _ rfl rfl _ _ _ _ _ _; rfl
  · intro a v hv hn; rw [hv] at hn; cases hn
  · intro a v hv ht
    have := cell_lt (h.mem a v hv); omega

/-- What M holds and, besides, the first cells of one block. -/
def Mem.add (M : Mem) (b lo : Nat) (cs : List Value) : Mem := fun a => if a.block = b ∧ a.spot = none ∧ lo ≤ a.off ∧ a.off < lo + cs.length then cs[a.off - lo]? else M a

theorem Mem.add_in {M : Mem} {b lo : Nat} {cs : List Value} {j : Nat} {v : Value} (h : cs[j]? = some v) : M.add b lo cs ⟨b, lo + j, none⟩ = some v := by
  have hj := (List.getElem?_eq_some_iff.1 h).1
  simp only [Mem.add]
  rw [if_pos ⟨trivial, trivial, by omega, by omega⟩]
  rwa [Nat.add_sub_cancel_left]
theorem Mem.add_new {M : Mem} {b lo : Nat} {cs : List Value} {a : Addr} {v : Value} (h : M.add b lo cs a = some v) (hn : M a = none) : a.block = b ∧ a.spot = none ∧ lo ≤ a.off ∧ a.off < lo + cs.length ∧ cs[a.off - lo]? = some v := by
  simp only [Mem.add] at h
  split at h
  · rename_i hc; exact ⟨hc.1, hc.2.1, hc.2.2.1, hc.2.2.2, h⟩
  · rw [hn] at h; cases h

/-- A new block whose first cells never turn; it may be labelled as a row. -/
theorem Inv.alloc_row {E M ι H w} (h : Inv E M ι H w) (t : TypeId) (news rest : List Value) (sz n cap : Nat) (hn : news.length = n * sz) (hc : (news ++ rest).length = cap * sz) (hle : n ≤ cap) {l : Nat} (hl : ι l = none) :
    Grow M ι (M.add w.heap.size 0 news) (ι.set l ⟨.row, some w.heap.size, cap, n⟩) ∧
    Inv E (M.add w.heap.size 0 news) (ι.set l ⟨.row, some w.heap.size, cap, n⟩) (H.set l (some (.row n sz t))) (w.alloc (.cells (news ++ rest).toArray t)) := by
  have hold : ∀ a v, M a = some v → a.block < w.heap.size := fun a v hv => cell_lt (h.mem a v hv)
  have hm : ∀ a v, M a = some v → M.add w.heap.size 0 news a = some v := fun a v hv => by
    have := hold a v hv
    simp only [Mem.add]; rw [if_neg (by omega)]; exact hv
  have hg : Grow M ι (M.add w.heap.size 0 news) (ι.set l ⟨.row, some w.heap.size, cap, n⟩) := Grow.fresh hm hl _
  refine ⟨hg, ?_⟩
  have hin : ∀ a v, M.add w.heap.size 0 news a = some v → a.block = w.heap.size → a.off < n * sz ∧ a.spot = none ∧ news[a.off]? = some v := fun a v hv hb => by
    cases hma : M a with
    | some u => have := hold a u hma; omega
    | none =>
      obtain ⟨_, e2, _, e4, e5⟩ := Mem.add_new hv hma
      exact ⟨by omega, e2, by simpa using e5⟩
  refine h.upd (fun k => k = l) (fun k => k = w.heap.size) hg (fun k hk => heap_push_ne w _ hk) (fun k hk => .inl (by omega)) (fun k hk => ⟨Sto.set_other _ _ hk, fun _ _ => Env.set_other _ _ hk⟩) ?_ ?_ ?_ ?_ (by rw [heap_push_size]; omega) rfl rfl rfl
  · rintro k o rfl ho
    rw [Sto.set_same] at ho; injection ho with ho; subst ho
    refine ⟨_, Env.set_same _ _ _, ⟨rfl, rfl, hle, ?_⟩, ?_⟩
    · rintro b hb
      injection hb with hb; subst hb
      exact ⟨_, heap_push_new w _, by simpa using hc⟩
    · rintro b hb
      injection hb with hb; subst hb
      exact ⟨rfl, fun a v hv hab => (hin a v hv hab).1⟩
  · rintro k k' _ _ _ _ _ rfl rfl _ _ _ _ _ _; rfl
  · intro a v hv hn'; exact (Mem.add_new hv hn').1
  · intro a v hv ht
    obtain ⟨e1, e2, e3⟩ := hin a v hv ht
    unfold World.cell?
    rw [ht, heap_push_new]
    simp only [e2, Option.isSome_none, Bool.false_eq_true, if_false, List.getElem?_toArray]
    rw [List.getElem?_append_left (by omega)]
    exact e3

/-- A new block whose cells never turn. -/
theorem Inv.alloc_fix {E M ι H w} (h : Inv E M ι H w) (t : TypeId) (news : List Value) :
    Grow M ι (M.add w.heap.size 0 news) ι ∧ Inv E (M.add w.heap.size 0 news) ι H (w.alloc (.cells news.toArray t)) := by
  have hold : ∀ a v, M a = some v → a.block < w.heap.size := fun a v hv => cell_lt (h.mem a v hv)
  have hm : ∀ a v, M a = some v → M.add w.heap.size 0 news a = some v := fun a v hv => by
    have := hold a v hv
    simp only [Mem.add]; rw [if_neg (by omega)]; exact hv
  have hg : Grow M ι (M.add w.heap.size 0 news) ι := ⟨hm, fun l bd hl => ⟨bd, hl, .inl rfl⟩⟩
  refine ⟨hg, ?_⟩
  refine h.upd (fun _ => False) (fun k => k = w.heap.size) hg (fun k hk => heap_push_ne w _ hk) (fun k hk => .inl (by omega)) (fun k hk => ⟨rfl, fun _ _ => rfl⟩) (fun _ _ h => h.elim) (fun _ _ _ _ _ _ _ h => h.elim) ?_ ?_ (by rw [heap_push_size]; omega) rfl rfl rfl
  · intro a v hv hn'; exact (Mem.add_new hv hn').1
  · intro a v hv ht
    cases hma : M a with
    | some u => have := hold a u hma; omega
    | none =>
      obtain ⟨_, e2, _, e4, e5⟩ := Mem.add_new hv hma
      unfold World.cell?
      rw [ht, heap_push_new]
      simp only [e2, Option.isSome_none, Bool.false_eq_true, if_false, List.getElem?_toArray]
      simpa using e5

theorem heap_set_same {w : World} {b off : Nat} {cs : Array Value} {t : TypeId} {fr : Nat × Nat} (v : Value) (h : w.heap[b]? = some (.cells cs t fr)) :
    (w.setCell ⟨b, off, none⟩ v).heap[b]? = some (.cells (cs.setIfInBounds off v) t fr) := by
  simp [World.setCell, Array.getElem?_modify, h]
theorem heap_set_ne {w : World} {b off k : Nat} (v : Value) (h : k ≠ b) : (w.setCell ⟨b, off, none⟩ v).heap[k]? = w.heap[k]? := Below.heap_setCell w _ _ _ h

/-- The cells of an object are written: the world afterwards has them in their place. -/
theorem Inv.write {E M ι H w} (h : Inv E M ι H w) {l : Nat} {vs vs' : List V} {t : TypeId} {bd : Bind} {b : Nat} (ho : H l = some (.cells vs t)) (hb : ι l = some bd) (hk : bd.blk = some b)
    {cs' : List Value} (hr : RepVs M ι vs' cs') (h1 : ∀ x ∈ cs', x.oneCell' = true) {w' : World} (hw : w'.heap[b]? = some (.cells cs'.toArray t (0, 0))) (hne : ∀ k, k ≠ b → w'.heap[k]? = w.heap[k]?)
    (hz : w'.heap.size = w.heap.size) (e1 : w'.os = w.os) (e2 : w'.tape = w.tape) (e3 : w'.output = w.output) : Inv E M ι (H.set l (some (.cells vs' t))) w' := by
  have htag : bd.tag = .cells := by
    obtain ⟨bd', e, hr'⟩ := h.obj l _ ho
    rw [hb] at e; injection e with e; subst e
    exact hr'.1
  refine h.upd (fun k => k = l) (fun k => k = b) (Grow.refl _ _) (fun k hk' => hne k hk') (fun k hk' => .inr ⟨l, _, bd, rfl, ho, hb, by rw [hk, hk']⟩) (fun k hk' => ⟨Sto.set_other _ _ hk', fun _ _ => rfl⟩) ?_ ?_ ?_ ?_ (by omega) e1 e2 e3
  · rintro k o rfl ho'
    rw [Sto.set_same] at ho'; injection ho' with ho'; subst ho'
    refine ⟨bd, hb, ⟨htag, b, cs', hk, hw, hr, h1⟩, ?_⟩
    rintro b' hb'
    rw [hk] at hb'; injection hb' with hb'; subst hb'
    exact ⟨rfl, fun a v hv hab => h.sep k _ bd _ ho hb hk a v hv hab⟩
  · rintro k k' _ _ _ _ _ rfl rfl _ _ _ _ _ _; rfl
  · intro a v hv hn; rw [hv] at hn; cases hn
  · intro a v hv ht
    exact (h.sep l _ bd b ho hb hk a v hv ht).elim

/-- A row is appended to in its place. -/
theorem Inv.append_in {E M ι H w} (h : Inv E M ι H w) {l : Nat} {n sz : Nat} {t : TypeId} {bd : Bind} {b : Nat} (ho : H l = some (.row n sz t)) (hb : ι l = some bd) (hk : bd.blk = some b)
    {news : List Value} {k : Nat} (hlen : news.length = k * sz) (hroom : n + k ≤ bd.cap) (hk0 : 0 < k) {w' : World} {cs cs' : Array Value} (hcs : w.heap[b]? = some (.cells cs t (0, 0)))
    (hw : w'.heap[b]? = some (.cells cs' t (0, 0))) (hsz : cs'.size = cs.size) (hlo : ∀ j, j < n * sz → cs'[j]? = cs[j]?) (hnew : ∀ j, j < k * sz → cs'[n * sz + j]? = news[j]?)
    (hne : ∀ i, i ≠ b → w'.heap[i]? = w.heap[i]?) (hz : w'.heap.size = w.heap.size) (e1 : w'.os = w.os) (e2 : w'.tape = w.tape) (e3 : w'.output = w.output) :
    Grow M ι (M.add b (n * sz) news) (ι.set l ⟨.row, some b, bd.cap, n + k⟩) ∧
    Inv E (M.add b (n * sz) news) (ι.set l ⟨.row, some b, bd.cap, n + k⟩) (H.set l (some (.row (n + k) sz t))) w' := by
  obtain ⟨bd', e, hr⟩ := h.obj l _ ho
  rw [hb] at e; injection e with e; subst e
  obtain ⟨r1, r2, r3, r4⟩ := hr
  obtain ⟨cs0, r5, r6⟩ := r4 b hk
  rw [hcs] at r5; injection r5 with r5; injection r5 with r5 _; subst r5
  have hsep : ∀ a v, M a = some v → a.block = b → a.off < n * sz := fun a v hv hab => h.sep l _ bd b ho hb hk a v hv hab
  have hm : ∀ a v, M a = some v → M.add b (n * sz) news a = some v := fun a v hv => by
    simp only [Mem.add]
    rw [if_neg (fun hc => by have := hsep a v hv hc.1; omega)]; exact hv
  have hg : Grow M ι (M.add b (n * sz) news) (ι.set l ⟨.row, some b, bd.cap, n + k⟩) := ⟨hm, fun i bi hi => by
    by_cases e : i = l
    · subst e; rw [hb] at hi; injection hi with hi; subst hi
      exact ⟨_, Env.set_same _ _ _, .inr ⟨r1, rfl, by simp only []; omega⟩⟩
    · exact ⟨bi, by rw [Env.set_other _ _ e]; exact hi, .inl rfl⟩⟩
  refine ⟨hg, ?_⟩
  have hin : ∀ a v, M.add b (n * sz) news a = some v → a.block = b → a.off < (n + k) * sz := fun a v hv hab => by
    have hmul : (n + k) * sz = n * sz + k * sz := Nat.add_mul ..
    cases hma : M a with
    | some u => have := hsep a u hma hab; omega
    | none => obtain ⟨_, _, _, e4, _⟩ := Mem.add_new hv hma; omega
  refine h.upd (fun i => i = l) (fun i => i = b) hg (fun i hi => hne i hi) (fun i hi => .inr ⟨l, _, bd, rfl, ho, hb, by rw [hk, hi]⟩) (fun i hi => ⟨Sto.set_other _ _ hi, fun _ _ => Env.set_other _ _ hi⟩) ?_ ?_ ?_ ?_ (by omega) e1 e2 e3
  · rintro i o rfl ho'
    rw [Sto.set_same] at ho'; injection ho' with ho'; subst ho'
    refine ⟨_, Env.set_same _ _ _, ⟨rfl, rfl, hroom, ?_⟩, ?_⟩
    · rintro b' hb'
      injection hb' with hb'; subst hb'
      exact ⟨cs', hw, by rw [hsz]; exact r6⟩
    · rintro b' hb'
      injection hb' with hb'; subst hb'
      exact ⟨rfl, hin⟩
  · rintro i i' _ _ _ _ _ rfl rfl _ _ _ _ _ _; rfl
  · intro a v hv hn'; exact (Mem.add_new hv hn').1
  · intro a v hv ht
    unfold World.cell?
    rw [ht, hw]
    cases hma : M a with
    | some u =>
      have e4 := hm a u hma
      rw [hv] at e4; injection e4 with e4; subst e4
      have e5 := h.mem a _ hma
      have e6 := hsep a _ hma ht
      unfold World.cell? at e5
      rw [ht, hcs] at e5
      simp only [] at e5 ⊢
      rw [hlo _ e6]; exact e5
    | none =>
      obtain ⟨_, f2, f3, f4, f5⟩ := Mem.add_new hv hma
      simp only [f2, Option.isSome_none, Bool.false_eq_true, if_false]
      have := hnew (a.off - n * sz) (by omega)
      rw [show n * sz + (a.off - n * sz) = a.off by omega] at this
      rw [this]; exact f5

/-- A slice that has no room left may be given a label: whatever is appended to it goes elsewhere. -/
theorem Inv.virtual {E M ι H w} (h : Inv E M ι H w) {l : Nat} (hl : ι l = none) (n sz : Nat) (t : TypeId) :
    Grow M ι M (ι.set l ⟨.row, none, n, n⟩) ∧ Inv E M (ι.set l ⟨.row, none, n, n⟩) (H.set l (some (.row n sz t))) w := by
  have hg : Grow M ι M (ι.set l ⟨.row, none, n, n⟩) := Grow.fresh (fun _ _ h => h) hl _
  refine ⟨hg, h.upd (fun k => k = l) (fun _ => False) hg (fun _ _ => rfl) (fun _ h => h.elim) (fun k hk => ⟨Sto.set_other _ _ hk, fun _ _ => Env.set_other _ _ hk⟩) ?_ ?_ (fun a v hv hn => by rw [hv] at hn; cases hn) (fun _ _ _ h => h.elim) (Nat.le_refl _) rfl rfl rfl⟩
  · rintro k o rfl ho
    rw [Sto.set_same] at ho; injection ho with ho; subst ho
    exact ⟨_, Env.set_same _ _ _, ⟨rfl, rfl, Nat.le_refl _, fun b hb => by cases hb⟩, fun b hb => by cases hb⟩
  · rintro k k' _ _ _ _ _ rfl rfl _ _ _ _ _ _; rfl
/-- The same at a label that bore an older, shorter row. -/
theorem Inv.alloc_row_over {E M ι H w} (h : Inv E M ι H w) (t : TypeId) (news rest : List Value) (sz n n0 cap : Nat) (hn : news.length = n * sz) (hc : (news ++ rest).length = cap * sz) (hle : n ≤ cap) {l : Nat} {bd : Bind}
    (ho : H l = some (.row n0 sz t)) (hb : ι l = some bd) (hlt : n0 < n) :
    Grow M ι (M.add w.heap.size 0 news) (ι.set l ⟨.row, some w.heap.size, cap, n⟩) ∧
    Inv E (M.add w.heap.size 0 news) (ι.set l ⟨.row, some w.heap.size, cap, n⟩) (H.set l (some (.row n sz t))) (w.alloc (.cells (news ++ rest).toArray t)) := by
  obtain ⟨bd', e, r1, r2, r3, _⟩ := h.obj l _ ho
  rw [hb] at e; injection e with e; subst e
  have hold : ∀ a v, M a = some v → a.block < w.heap.size := fun a v hv => cell_lt (h.mem a v hv)
  have hm : ∀ a v, M a = some v → M.add w.heap.size 0 news a = some v := fun a v hv => by
    have := hold a v hv
    simp only [Mem.add]; rw [if_neg (by omega)]; exact hv
  have hg : Grow M ι (M.add w.heap.size 0 news) (ι.set l ⟨.row, some w.heap.size, cap, n⟩) := ⟨hm, fun i bi hi => by
    by_cases e : i = l
    · subst e; rw [hb] at hi; injection hi with hi; subst hi
      exact ⟨_, Env.set_same _ _ _, .inr ⟨r1, rfl, by simp only []; omega⟩⟩
    · exact ⟨bi, by rw [Env.set_other _ _ e]; exact hi, .inl rfl⟩⟩
  refine ⟨hg, ?_⟩
  have hin : ∀ a v, M.add w.heap.size 0 news a = some v → a.block = w.heap.size → a.off < n * sz ∧ a.spot = none ∧ news[a.off]? = some v := fun a v hv hb => by
    cases hma : M a with
    | some u => have := hold a u hma; omega
    | none =>
      obtain ⟨_, e2, _, e4, e5⟩ := Mem.add_new hv hma
      exact ⟨by omega, e2, by simpa using e5⟩
  refine h.upd (fun k => k = l) (fun k => k = w.heap.size) hg (fun k hk => heap_push_ne w _ hk) (fun k hk => .inl (by omega)) (fun k hk => ⟨Sto.set_other _ _ hk, fun _ _ => Env.set_other _ _ hk⟩) ?_ ?_ ?_ ?_ (by rw [heap_push_size]; omega) rfl rfl rfl
  · rintro k o rfl ho
    rw [Sto.set_same] at ho; injection ho with ho; subst ho
    refine ⟨_, Env.set_same _ _ _, ⟨rfl, rfl, hle, ?_⟩, ?_⟩
    · rintro b hb
      injection hb with hb; subst hb
      exact ⟨_, heap_push_new w _, by simpa using hc⟩
    · rintro b hb
      injection hb with hb; subst hb
      exact ⟨rfl, fun a v hv hab => (hin a v hv hab).1⟩
  · rintro k k' _ _ _ _ _ rfl rfl _ _ _ _ _ _; rfl
  · intro a v hv hn'; exact (Mem.add_new hv hn').1
  · intro a v hv ht
    obtain ⟨e1, e2, e3⟩ := hin a v hv ht
    unfold World.cell?
    rw [ht, heap_push_new]
    simp only [e2, Option.isSome_none, Bool.false_eq_true, if_false, List.getElem?_toArray]
    rw [List.getElem?_append_left (by omega)]
    exact e3
end Go.AM

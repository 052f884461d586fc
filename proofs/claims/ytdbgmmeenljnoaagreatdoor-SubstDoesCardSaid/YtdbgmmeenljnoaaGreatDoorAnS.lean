/-
  Maps as lists of pairs, and what a library function that hands back a sorted row of a map's keys leaves behind.
  From a row's premise to a contract, argument by argument.
-/
import Derived.Test.YtdbgmmeenljnoaaGreatDoorAnD
import Derived.Test.YtdbgmmeenljnoaaGreatDoorAnP
import Derived.Maps.Own
import Derived.Lib.SlKeysI
import Derived.Test.YtdbgmmeenljnoaaGreatDoorAmS
import Derived.WideShapes
import Derived.Carry
set_option linter.unusedVariables false
set_option linter.unusedSimpArgs false
namespace Go.AM
open Go Go.RowKit Go.MapKept

/-! ### Maps, typed -/
def mset {α β : Type} [BEq α] : List (α × β) → α → β → List (α × β)
  | [], k, v => [(k, v)]
  | (a, x) :: r, k, v => cond (a == k) ((k, v) :: r) ((a, x) :: mset r k v)
def mget {α β : Type} [BEq α] : List (α × β) → α → Option β
  | [], _ => none
  | (a, x) :: r, k => cond (a == k) (some x) (mget r k)
def dMap {α β : Type} (ek : α → D) (ev : β → V) (l : List (α × β)) : List (D × V) := l.map fun p => (ek p.1, ev p.2)
def kI (i : Int) : D := .int .i64 i
def kS (s : ByteArray) : D := .str s
def kB (b : Bool) : D := .bool b
def vI (i : Int) : V := .d (.int .i64 i)
def vS (s : ByteArray) : V := .d (.str s)
def vB (b : Bool) : V := .d (.bool b)
def vL {β : Type} (e : List β → List (List D)) (l : List β) : V := .d (.slice (e l))
def vA {β : Type} (c : β → List D) (x : β) : V := .agg ((c x).map V.d)
theorem beI (a b : Int) : beqD (kI a) (kI b) = (a == b) := rfl
theorem beS (a b : ByteArray) : beqD (kS a) (kS b) = (a == b) := rfl
theorem beB (a b : Bool) : beqD (kB a) (kB b) = (a == b) := rfl
theorem dMap_set {α β : Type} [BEq α] {ek : α → D} {ev : β → V} (he : ∀ a b, beqD (ek a) (ek b) = (a == b)) (l : List (α × β)) (k : α) (v : β) : dset (dMap ek ev l) (ek k) (ev v) = dMap ek ev (mset l k v) := by
  induction l with
  | nil => rfl
  | cons p r ih =>
    obtain ⟨a, x⟩ := p
    simp only [dMap, List.map_cons, dset, mset, he]
    cases a == k with
    | true => rfl
    | false => simp only [cond_false, List.map_cons]; exact congrArg _ ih
theorem dMap_get {α β : Type} [BEq α] {ek : α → D} {ev : β → V} (he : ∀ a b, beqD (ek a) (ek b) = (a == b)) (l : List (α × β)) (k : α) : dget (dMap ek ev l) (ek k) = (mget l k).map ev := by
  induction l with
  | nil => rfl
  | cons p r ih =>
    obtain ⟨a, x⟩ := p
    simp only [dMap, List.map_cons, dget, mget, he]
    cases a == k with
    | true => rfl
    | false => exact ih
theorem dMap_getD {α β : Type} [BEq α] {ek : α → D} {ev : β → V} (he : ∀ a b, beqD (ek a) (ek b) = (a == b)) (l : List (α × β)) (k : α) (z : β) : (dget (dMap ek ev l) (ek k)).getD (ev z) = ev ((mget l k).getD z) := by
  rw [dMap_get he]; cases mget l k <;> rfl
theorem dMap_isSome {α β : Type} [BEq α] {ek : α → D} {ev : β → V} (he : ∀ a b, beqD (ek a) (ek b) = (a == b)) (l : List (α × β)) (k : α) : (dget (dMap ek ev l) (ek k)).isSome = (mget l k).isSome := by
  rw [dMap_get he]; cases mget l k <;> rfl
theorem dMap_len {α β : Type} (ek : α → D) (ev : β → V) (l : List (α × β)) : ((dMap ek ev l).length : Int) = ((l.length : Nat) : Int) := by simp [dMap]

/-! ### Behind a call of the library's -/
theorem Inv.below {E M ι H w w'} (h : Inv E M ι H w) (hb : Below w.heap.size w w') : Inv E M ι H w' := by
  refine h.upd (fun _ => False) (fun k => w.heap.size ≤ k) (Grow.refl _ _) (fun k hk => hb.block k (by omega)) (fun k hk => .inl hk) (fun k hk => ⟨rfl, fun _ _ => rfl⟩) (fun _ _ h => h.elim) (fun _ _ _ _ _ _ _ h => h.elim) ?_ ?_ hb.size hb.os hb.tape hb.output
  · intro a v hv hn; rw [hv] at hn; cases hn
  · intro a v hv ht
    have := cell_lt (h.mem a v hv); omega
theorem Inv.below_fix {E M ι H w w'} (h : Inv E M ι H w) (hb : Below w.heap.size w w') {g : Nat} {cur : Array Value} {t : TypeId} {fr : Nat × Nat} (hg : w.heap.size ≤ g) (hc : w'.heap[g]? = some (.cells cur t fr)) {news : List Value} (hn : cur.toList.take news.length = news) :
    Grow M ι (M.add g 0 news) ι ∧ Inv E (M.add g 0 news) ι H w' := by
  have hold : ∀ a v, M a = some v → a.block < w.heap.size := fun a v hv => cell_lt (h.mem a v hv)
  have hm : ∀ a v, M a = some v → M.add g 0 news a = some v := fun a v hv => by
    have := hold a v hv
    simp only [Mem.add]; rw [if_neg (by omega)]; exact hv
  have hgr : Grow M ι (M.add g 0 news) ι := ⟨hm, fun l bd hl => ⟨bd, hl, .inl rfl⟩⟩
  refine ⟨hgr, ?_⟩
  refine h.upd (fun _ => False) (fun k => w.heap.size ≤ k) hgr (fun k hk => hb.block k (by omega)) (fun k hk => .inl hk) (fun k hk => ⟨rfl, fun _ _ => rfl⟩) (fun _ _ h => h.elim) (fun _ _ _ _ _ _ _ h => h.elim) ?_ ?_ hb.size hb.os hb.tape hb.output
  · intro a v hv hn'; rw [(Mem.add_new hv hn').1]; exact hg
  · intro a v hv ht
    cases hma : M a with
    | some u => have := hold a u hma; omega
    | none =>
      obtain ⟨e1, e2, _, e4, e5⟩ := Mem.add_new hv hma
      unfold World.cell?
      rw [e1, hc]
      have e5' : cur.toList[a.off]? = some v := by
        rw [← hn, List.getElem?_take] at e5
        split at e5
        · simpa using e5
        · cases e5
      simp only [e2, Option.isSome_none, Bool.false_eq_true, if_false]
      simpa using e5'
theorem repRows_I {M : Mem} : ∀ {zs : List Int} {ad : Addr}, ad.spot = none → (∀ i z, zs[i]? = some z → M (ad.add i) = some (.int .i64 z)) → RepRows M (dInts zs) ad
  | [], _, _, _ => by simp [dInts, RepRows]
  | z :: zs, ad, hs, h => by
    simp only [dInts, List.map_cons, RepRows, RepRow]
    have h0 := h 0 z rfl
    rw [show ad.add 0 = ad by cases ad; simp only at hs; subst hs; simp [Addr.add]] at h0
    refine ⟨⟨⟨_, h0, by simp [RepD]⟩, trivial⟩, repRows_I (add_spot hs 1) fun i z' hi => ?_⟩
    have := h (i + 1) z' (by simpa using hi)
    simp only [List.length_cons, List.length_nil]
    rw [add_add hs, Nat.zero_add, Nat.add_comm]
    simpa using this

/-! ### A map's keys, sorted -/
def sortI (l : List Int) : List Int := l.mergeSort (fun x y => decide (x ≤ y))
def inI (a : Int) : Bool := decide (-9223372036854775808 ≤ a) && decide (a ≤ 9223372036854775807)
def ndB : List Int → Bool
  | [] => true
  | a :: r => !r.contains a && ndB r
theorem ndB_iff {l : List Int} : ndB l = true ↔ l.Nodup := by
  induction l with
  | nil => simp [ndB]
  | cons a r ih => simp [ndB, ih]
def keysOk (l : List Int) : Bool := decide (l.length ≤ 2000000000) && (l.all inI && ndB l)
def sortedKeysI {β : Type} (l : List (Int × β)) : Option (List Int) := cond (keysOk (l.map (·.1))) (some (sortI (l.map (·.1)))) none
theorem sortI_len (l : List Int) : (sortI l).length = l.length := by simp [sortI]
theorem RepEs.keysI {M : Mem} {β : Type} {ev : β → V} : ∀ {l : List (Int × β)} {ms : List MapEntry}, RepEs M (dMap kI ev l) ms → ms.map (·.key) = l.map fun p => Value.int .i64 p.1
  | [], ms, h => by simp only [dMap, List.map_nil, RepEs] at h; subst h; rfl
  | (a, y) :: r, ms, h => by
    simp only [dMap, List.map_cons, RepEs] at h
    obtain ⟨e, ms', rfl, h1, _, _, h4⟩ := h
    simp only [kI, RepD] at h1
    simp only [List.map_cons, h1]
    exact congrArg _ (RepEs.keysI h4)
/-- What the library says of it, over whatever program. -/
def SortsKeysI (P : Program) (fS fK : FuncId) (ti : TypeId) : Prop :=
  ∀ (Bm b nn : Nat) (D0 : DataW Unit) (R : Value → Option (DataW Unit × List MemPlace)) (w : World), Bm < w.heap.size → w.cell? ⟨Bm, 0, none⟩ = some (.map (some b)) → w.ownsMap P ti R b nn D0 →
    Maps.size D0 ≤ maxLen → Maps.size D0 * 8 ≤ 140737488355328 →
    Calls P fS #[.func (.func fK) #[] #[.pointer (some ⟨Bm, 0, none⟩)]] w fun e w' => ∃ (v : Value) (ss : List Int), e = .returned v ∧ ss.Perm (intKeys D0) ∧
      w'.ownsRow w.heap.size ti 1 v ss.length ((ss.mergeSort (fun x y => decide (x ≤ y))).map encZ) ∧ (v = .slice none 0 0 ↔ ss = []) ∧ Below w.heap.size w w'
theorem sortedKeysI_ev {P : Program} {G : Gl} {fS fK : FuncId} {ti tm : TypeId} {β : Type} {ev : β → V} (hcall : Callable P fS) (hti : P.underlying ti = some (.int .i64)) (hC : SortsKeysI P fS fK ti) {l : List (Int × β)} {r : List Int} (h : sortedKeysI l = some r) :
    Ev P G fS [.clo fK [.ptr 1000 0]] [(1000, .cells [.map 1001] tm), (1001, .map ⟨1, dMap kI ev l⟩)] (.d (.slice (dInts r))) [(1000, .cells [.map 1001] tm), (1001, .map ⟨1, dMap kI ev l⟩)] := by
  unfold sortedKeysI at h
  cases hk : keysOk (l.map (·.1)) with
  | false => rw [hk] at h; cases h
  | true =>
  rw [hk] at h
  simp only [cond_true, Option.some.injEq] at h
  simp only [keysOk, Bool.and_eq_true, decide_eq_true_eq, ndB_iff] at hk
  obtain ⟨k1, k2, k3⟩ := hk
  refine ⟨hcall, fun M ι w cargs hi hG hargs hfr => ?_⟩
  simp only [RepVs, RepV] at hargs
  obtain ⟨v0, r0, rfl, ⟨vs, rfl, pv, r1, rfl, ⟨bd, b0, q1, q2, q3, rfl⟩, rfl⟩, rfl⟩ := hargs
  obtain ⟨bd', b', cs, p1, p2, p3, p4, p5, p6, _⟩ := hi.cells (l := 1000) (vs := [.map 1001]) (t := tm) rfl
  rw [q1] at p1; injection p1 with p1; subst p1
  rw [q3] at p3; injection p3 with p3; subst p3
  simp only [RepVs, RepV] at p5
  obtain ⟨mv, r2, rfl, ⟨bdm, bm, m1, m2, m3, rfl⟩, rfl⟩ := p5
  obtain ⟨bd2, b2, ms, ck, n1, n2, n3, n4, n5, n6⟩ := hi.map_at (l := 1001) (m := ⟨1, dMap kI ev l⟩) rfl
  rw [m1] at n1; injection n1 with n1; subst n1
  rw [m3] at n3; injection n3 with n3; subst n3
  have hkeys := RepEs.keysI n5.2
  have hlen : ms.length = l.length := by have := congrArg List.length hkeys; simpa using this
  let R : Value → Option (DataW Unit × List MemPlace) := fun _ => some (.nil, [])
  have hreads : ∀ x ∈ ms, ∃ a, a ∈ l.map (·.1) ∧ x.key = .int .i64 a ∧ WideElems.rd P ti R x = some (.int .i64 a, .nil) := fun x hx => by
    have : x.key ∈ ms.map (·.key) := List.mem_map.2 ⟨x, hx, rfl⟩
    rw [hkeys] at this
    obtain ⟨p, hp, e⟩ := List.mem_map.1 this
    have ha : p.1 ∈ l.map (·.1) := List.mem_map.2 ⟨p, hp, rfl⟩
    refine ⟨p.1, ha, e.symm, ?_⟩
    have hw := List.all_eq_true.1 k2 p.1 ha
    simp only [inI, Bool.and_eq_true, decide_eq_true_eq] at hw
    have hwf : (Lit.int .i64 p.1).wf = true := by
      have e1 : IntKind.i64.min = -9223372036854775808 := by decide
      have e2 : IntKind.i64.max = 9223372036854775807 := by decide
      simp only [Lit.wf, e1, e2, Bool.and_eq_true, decide_eq_true_eq]; exact hw
    simp [WideElems.rd, keyOf, mapKey, hti, ← e, hwf, R]
  let D0 : DataW Unit := .map ((ms.map (WideElems.rg P ti R)).foldr DataW.insert [])
  have hperm : ((ms.map (WideElems.rg P ti R)).foldr DataW.insert []).Perm (ms.map (WideElems.rg P ti R)) := WideShapes.sorted_perm _
  have hint : (intKeys D0).Perm (l.map (·.1)) := by
    refine (hperm.map fun p => intOf p.1).trans ?_
    have : ((ms.map (WideElems.rg P ti R)).map fun p => intOf p.1) = l.map (·.1) := by
      have e2 : (ms.map (·.key)).map (fun v => match v with | .int _ a => a | _ => 0) = l.map (·.1) := by
        rw [hkeys]; simp [Function.comp_def]
      rw [← e2, List.map_map, List.map_map]
      refine List.map_congr_left fun x hx => ?_
      obtain ⟨a, _, e3, e4⟩ := hreads x hx
      simp [WideElems.rg, e4, e3, intOf]
    rw [this]
  have hown : w.ownsMap P ti R bm ms.length D0 := by
    refine ⟨ms.toArray, ck, n4, ⟨?_, ⟨?_, ?_, ?_⟩, ?_⟩, by simp, by simp [D0]⟩
    · simp only [List.size_toArray]; rw [hlen]
      simp only [List.length_map] at k1
      exact Nat.le_trans k1 (by decide)
    · intro x hx; exact n6.2 x (by simpa using hx)
    · simpa using n6.1
    · have : (ms.map (·.key)).Nodup := by
        rw [hkeys]
        have e : (l.map fun p => Value.int .i64 p.1) = (l.map (·.1)).map (Value.int .i64) := by simp [Function.comp_def]
        rw [e]
        exact List.pairwise_map.2 (k3.imp fun hne e => hne (by injection e))
      simpa using this
    · intro x hx
      obtain ⟨a, _, _, e⟩ := hreads x (by simpa using hx)
      exact ⟨_, e⟩
  have hsz : Maps.size D0 = l.length := by
    show ((ms.map (WideElems.rg P ti R)).foldr DataW.insert []).length = _
    rw [hperm.length_eq, List.length_map, hlen]
  simp only [List.length_map] at k1
  have hcell : w.cell? ⟨b0, 0, none⟩ = some (.map (some bm)) := by simp [World.cell?, p4]
  refine (hC b0 bm ms.length D0 R w (heap_lt p4) hcell hown (by rw [hsz]; exact Nat.le_trans k1 (by decide)) (by rw [hsz]; omega)).mono ?_
  rintro e w' ⟨v, ss, rfl, hp, hrow, hnil, hb⟩
  have hss : ss.mergeSort (fun x y => decide (x ≤ y)) = r := by
    rw [← h]; exact mergeSort_of_perm_i (hp.trans hint)
  have hsl : ss.length = r.length := by rw [← hss]; simp
  rw [hss, hsl] at hrow
  obtain ⟨_, hrow⟩ := hrow
  rcases hrow with ⟨rfl, hn⟩ | ⟨g, cap, cur, rfl, hg, hc, hle, hcap, hcs, htk⟩
  · have hr : r = [] := List.eq_nil_of_length_eq_zero hn
    subst hr
    refine ⟨M, ι, _, rfl, Grow.refl _ _, fun _ _ _ => rfl, hi.below hb, ?_⟩
    simp only [RepV, RepD, dInts, List.map_nil, List.length_nil]
    exact ⟨none, 0, 0, rfl, Nat.le_refl _, Nat.zero_le _, fun _ h => (by cases h), fun h => (h rfl).elim⟩
  · obtain ⟨g1, g2⟩ := hi.below_fix hb hg hc (news := r.map encZ) (by simpa using htk)
    refine ⟨_, ι, _, rfl, g1, fun _ _ _ => rfl, g2, ?_⟩
    simp only [RepV, RepD]
    refine ⟨_, cap, 1, by rw [dInts_len], by rw [dInts_len]; exact hle, by rw [dInts_len]; exact Nat.le_trans hle hcap, dInts_sz _, fun _ => ⟨_, rfl, rfl, repRows_I rfl fun i z hz => ?_⟩⟩
    have := Mem.add_in (M := M) (b := g) (lo := 0) (cs := r.map encZ) (j := i) (v := encZ z) (by simp [hz])
    cases i <;> simpa [Addr.add] using this
end Go.AM
set_option linter.unusedVariables false
set_option linter.unusedSimpArgs false
namespace Go.AM
open Go Go.RowKit Go.ChangeShapes Go.WideShapes Go.ChangeAt
variable {H : Type} {enc : TypeId × Value → H} {P : Program} {W : World}
theorem below_trodAll {W' : World} (hl : laidOutB P = true) (hb : Below W.heap.size W W') : ∀ {ts : List TypeId} {vs : List Value} {ds : List (DataW H)} {ps : List MemPlace}, ts.all (fun t => P.readableRec t && decide (t < P.types.size)) = true → DataW.TrodAll enc P W 0 (fun _ => true) true ts vs ds ps →
    (∀ x ∈ ps, x.block < W.heap.size) → DataW.TrodAll enc P W' 0 (fun b => decide (b < W.heap.size)) true ts vs ds ps
  | [], vs, ds, ps, _, h, _ => by
    obtain ⟨rfl, rfl, rfl⟩ := trodAll_nil h
    exact rfl
  | t :: ts, vs, ds, ps, ht, h, hlt => by
    obtain ⟨v, vs', d, ds', p, q, rfl, rfl, rfl, h0, h1⟩ := trodAll_cons h
    simp only [List.all_cons, Bool.and_eq_true] at ht
    exact ⟨p, q, Below.trod hl ht.1.1 (of_decide_eq_true ht.1.2) h0 hb (fun x hx => hlt x (List.mem_append_left _ hx)), below_trodAll hl hb ht.2 h1 (fun x hx => hlt x (List.mem_append_right _ hx)), rfl⟩
theorem op_ints {t e : TypeId} {v : Value} {d : DataW H} {p : List MemPlace} {r : Reach} {b0 : Nat} (ht : P.underlying t = some (.slice e)) (he : P.underlying e = some (.int .i64)) (hc : P.cellsOf e = 1) (hval : Value.okWide P W r b0 t v) (h0 : DataW.Trod enc P W 0 (fun _ => true) true t v d p) :
    ∃ L : List Int, RepV (allOf W) (fun _ => none) (.d (.slice (dInts L))) v := by
  obtain ⟨a0, len, cap, rfl⟩ := okWide_slice ht hval
  obtain ⟨fuel, hf⟩ := h0
  rcases open_ints ht he hc hf with ⟨hcs, hx⟩ | ⟨a, len', cap', zs, hcs, _, hl, hm, hz, hx, hcell, hwz⟩
  · simp [Value.cells] at hcs
    obtain ⟨rfl, rfl, rfl⟩ := hcs
    exact ⟨[], _, _, 1, rfl, Nat.le_refl _, Nat.zero_le _, fun e h => (by cases h), fun h => absurd rfl h⟩
  · simp [Value.cells] at hcs
    obtain ⟨rfl, rfl, rfl⟩ := hcs
    simp only [if_true] at hz
    refine ⟨zs.take len, ?_⟩
    have hle : (dInts (zs.take len)).length = len := by rw [dInts_len, List.length_take]; omega
    simp only [RepV, RepD]
    refine ⟨some a, cap, 1, by rw [hle], by rw [hle]; exact hl, by rw [hle]; omega, dInts_sz _, fun hne => ?_⟩
    have hpos : 0 < zs.length := by
      cases zs with
      | nil => simp [dInts] at hne
      | cons z zs => simp
    have hsp : a.spot = none := by
      have := cell_spot (hcell 0 hpos)
      rwa [show a.add 0 = a from if_pos rfl] at this
    refine ⟨a, rfl, hsp, repRows_ints hsp fun i hi => ?_⟩
    have hi' : i < zs.length := by rw [List.length_take] at hi; omega
    show W.cell? (a.add i) = _
    rw [hcell i hi']
    rw [List.length_take] at hi
    rw [List.getD_eq_getElem?_getD, List.getD_eq_getElem?_getD, List.getElem?_take_of_lt (by omega)]
theorem op_int {t : TypeId} {k : IntKind} {v : Value} {d : DataW H} {p : List MemPlace} {r : Reach} {b0 : Nat} (ht : P.underlying t = some (.int k)) (hval : Value.okWide P W r b0 t v) (h0 : DataW.Trod enc P W 0 (fun _ => true) true t v d p) :
    ∃ n : Int, RepV (allOf W) (fun _ => none) (.d (.int k n)) v ∧ k.min ≤ n ∧ n ≤ k.max := by
  obtain ⟨n, rfl, _, _, hw⟩ := open_int ht hval h0
  simp only [Lit.wf, Bool.and_eq_true, decide_eq_true_eq] at hw
  exact ⟨n, by simp [RepV, RepD], hw.1, hw.2⟩
theorem op_bool {t : TypeId} {v : Value} {d : DataW H} {p : List MemPlace} {r : Reach} {b0 : Nat} (ht : P.underlying t = some .bool) (hval : Value.okWide P W r b0 t v) (h0 : DataW.Trod enc P W 0 (fun _ => true) true t v d p) :
    ∃ b : Bool, RepV (allOf W) (fun _ => none) (.d (.bool b)) v := by
  obtain ⟨b, rfl, _⟩ := open_bool ht hval h0
  exact ⟨b, by simp [RepV, RepD]⟩
end Go.AM

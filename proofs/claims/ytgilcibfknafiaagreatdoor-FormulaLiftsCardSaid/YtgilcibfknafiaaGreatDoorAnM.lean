/-
  Maps of the call's own: made, written, read.
-/
import Derived.Test.YtgilcibfknafiaaGreatDoorAnB
import Derived.MapKept
import Derived.Carry
set_option linter.unusedVariables false
set_option linter.unusedSimpArgs false
namespace Go.AM
open Go Go.RowKit Go.MapKept

def beqD : D → D → Bool
  | .int k a, .int k' b => (k == k') && (a == b)
  | .str a, .str b => a == b
  | .bool a, .bool b => a == b
  | _, _ => false
def dset : List (D × V) → D → V → List (D × V)
  | [], k, v => [(k, v)]
  | (a, x) :: r, k, v => match beqD a k with
    | true => (k, v) :: r
    | false => (a, x) :: dset r k v
def dget : List (D × V) → D → Option V
  | [], _ => none
  | (a, x) :: r, k => match beqD a k with
    | true => some x
    | false => dget r k
theorem isKey_of {M : Mem} {kc : Nat} {k : D} {v : Value} (h : kcOk kc k = true) (hr : RepD M k v) : IsKey (descOf kc) v := by
  unfold kcOk at h
  split at h <;> first | (simp only [RepD] at hr; subst hr; simp [descOf, IsKey]) | cases h
theorem beqD_iff {M : Mem} {kc : Nat} {a k : D} {u v : Value} (ha : kcOk kc a = true) (hk : kcOk kc k = true) (h1 : RepD M a u) (h2 : RepD M k v) : beqD a k = true ↔ u = v := by
  unfold kcOk at ha hk
  split at ha
  all_goals first | cases ha | skip
  all_goals (split at hk <;> first | cases hk | skip)
  all_goals simp_all [RepD, beqD, MapKept.bytes_beq]
theorem dset_keys {kc : Nat} {k : D} {v : V} (hk : kcOk kc k = true) : ∀ {es : List (D × V)}, (∀ p ∈ es, kcOk kc p.1 = true) → ∀ p ∈ dset es k v, kcOk kc p.1 = true
  | [], _, p, hp => by simp [dset] at hp; subst hp; exact hk
  | (a, x) :: r, h, p, hp => by
    unfold dset at hp
    split at hp
    · rcases List.mem_cons.1 hp with rfl | hp
      · exact hk
      · exact h p (List.mem_cons_of_mem _ hp)
    · rcases List.mem_cons.1 hp with rfl | hp
      · exact h (a, x) List.mem_cons_self
      · exact dset_keys hk (fun q hq => h q (List.mem_cons_of_mem _ hq)) p hp
/-- What is found in the entries, and what is put into them. -/
theorem find_es {M : Mem} {kc : Nat} {k : D} {kv : Value} {x : V} {xv : Value} (hk : kcOk kc k = true) (hr : RepD M k kv) (hon : x.on [] = true) (hx : RepV M (fun _ => none) x xv) : ∀ {es : List (D × V)} {ms : List MapEntry} (i : Nat), (∀ p ∈ es, kcOk kc p.1 = true) → RepEs M es ms →
    (Instr.findNow (descOf kc) kv ms i = some none ∧ dget es k = none ∧ ∀ b, RepEs M (dset es k x) (ms ++ [⟨kv, xv, b⟩])) ∨
    ∃ j e y, Instr.findNow (descOf kc) kv ms i = some (some (i + j, e.val)) ∧ ms[j]? = some e ∧ e.key = kv ∧ dget es k = some y ∧ RepV M (fun _ => none) y e.val ∧ RepEs M (dset es k x) (ms.set j ⟨kv, xv, e.born⟩)
  | [], ms, i, _, h => by
    simp only [RepEs] at h; subst h
    exact .inl ⟨rfl, rfl, fun b => ⟨_, _, rfl, hr, hon, hx, rfl⟩⟩
  | (a, y) :: r, ms, i, hkeys, h => by
    obtain ⟨e, ms', rfl, h1, h2, h3, h4⟩ := h
    have hka := hkeys (a, y) List.mem_cons_self
    obtain ⟨q, hq, hiff⟩ := sameNow_of_keys (isKey_of hk hr) (isKey_of hka h1)
    have hb := beqD_iff hka hk h1 hr
    cases q with
    | true =>
      have e1 : kv = e.key := hiff.1 rfl
      have e2 : beqD a k = true := hb.2 e1.symm
      refine .inr ⟨0, e, y, by simp [Instr.findNow, hq], rfl, e1.symm, by simp [dget, e2], h3, ?_⟩
      simp only [dset, e2, List.set_cons_zero]
      exact ⟨_, _, rfl, hr, hon, hx, h4⟩
    | false =>
      have e2 : beqD a k = false := by
        cases hbb : beqD a k with
        | false => rfl
        | true => have := hiff.2 (hb.1 hbb).symm; cases this
      rcases find_es hk hr hon hx (i + 1) (fun p hp => hkeys p (List.mem_cons_of_mem _ hp)) h4 with ⟨f1, f2, f3⟩ | ⟨j, e', y', f1, f2, f3, f4, f5, f6⟩
      · refine .inl ⟨by simp [Instr.findNow, hq, f1], by simp [dget, e2, f2], fun b => ?_⟩
        simp only [dset, e2, List.cons_append]
        exact ⟨_, _, rfl, h1, h2, h3, f3 b⟩
      · refine .inr ⟨j + 1, e', y', by simp [Instr.findNow, hq, f1]; omega, by simpa using f2, f3, by simp [dget, e2, f4], f5, ?_⟩
        simp only [dset, e2, List.set_cons_succ]
        exact ⟨_, _, rfl, h1, h2, h3, f6⟩
theorem RepEs.keys {M : Mem} {kc : Nat} : ∀ {es : List (D × V)} {ms : List MapEntry}, (∀ p ∈ es, kcOk kc p.1 = true) → RepEs M es ms → ∀ x ∈ ms, IsKey (descOf kc) x.key
  | [], ms, _, h, x, hx => by simp only [RepEs] at h; subst h; cases hx
  | (a, y) :: r, ms, hk, h, x, hx => by
    obtain ⟨e, ms', rfl, h1, _, _, h4⟩ := h
    rcases List.mem_cons.1 hx with rfl | hx
    · exact isKey_of (hk (a, y) List.mem_cons_self) h1
    · exact RepEs.keys (fun p hp => hk p (List.mem_cons_of_mem _ hp)) h4 x hx
theorem RepEs.length {M : Mem} : ∀ {es : List (D × V)} {ms : List MapEntry}, RepEs M es ms → ms.length = es.length
  | [], ms, h => by simp only [RepEs] at h; subst h; rfl
  | (a, y) :: r, ms, h => by
    obtain ⟨e, ms', rfl, _, _, _, h4⟩ := h
    simp [RepEs.length h4]
/-- A new map. -/
theorem Inv.alloc_map {E M ι H w} (h : Inv E M ι H w) {l : Nat} (hl : ι l = none) (kc : Nat) : Grow M ι M (ι.set l ⟨.map, some w.heap.size, 0, 0⟩) ∧ Inv E M (ι.set l ⟨.map, some w.heap.size, 0, 0⟩) (H.set l (some (.map ⟨kc, []⟩))) (w.alloc (.map #[] 0)) := by
  have hg : Grow M ι M (ι.set l ⟨.map, some w.heap.size, 0, 0⟩) := Grow.fresh (fun _ _ h => h) hl _
  refine ⟨hg, h.upd (fun k => k = l) (fun k => k = w.heap.size) hg (fun k hk => heap_push_ne w _ hk) (fun k hk => .inl (by omega)) (fun k hk => ⟨Sto.set_other _ _ hk, fun _ _ => Env.set_other _ _ hk⟩) ?_ ?_ ?_ ?_ (by rw [heap_push_size]; omega) rfl rfl rfl⟩
  · rintro k o rfl ho
    rw [Sto.set_same] at ho; injection ho with ho; subst ho
    refine ⟨_, Env.set_same _ _ _, ⟨rfl, w.heap.size, [], 0, rfl, heap_push_new w _, ⟨fun p hp => (by cases hp), rfl⟩, ⟨by simp, fun e he => by cases he⟩⟩, ?_⟩
    rintro b hb
    injection hb with hb; subst hb
    refine ⟨rfl, fun a v hv hab => ?_⟩
    have := cell_lt (h.mem a v hv); omega
  · rintro k k' _ _ _ _ _ rfl rfl _ _ _ _ _ _; rfl
  · intro a v hv hn; rw [hv] at hn; cases hn
  · intro a v hv ht
    have := cell_lt (h.mem a v hv); omega
/-- A map is written. -/
theorem Inv.write_map {E M ι H w} (h : Inv E M ι H w) {l : Nat} {m m' : MapC} {bd : Bind} {b : Nat} (ho : H l = some (.map m)) (hb : ι l = some bd) (hk : bd.blk = some b)
    {ms' : List MapEntry} {ck' : Nat} (hr : RepMap M m' ms') (hbo : BornOk ms' ck') : Inv E M ι (H.set l (some (.map m'))) { w with heap := w.heap.setIfInBounds b (.map ms'.toArray ck') } := by
  obtain ⟨bd', e, htag, b', ms, ck, q1, q2, q3, q4⟩ := h.obj l _ ho
  rw [hb] at e; injection e with e; subst e
  rw [hk] at q1; injection q1 with q1; subst q1
  have hset := heap_set (o' := .map ms'.toArray ck') q2
  refine h.upd (fun k => k = l) (fun k => k = b) (Grow.refl _ _) (fun k hk' => hset.2 k hk') (fun k hk' => .inr ⟨l, _, bd, rfl, ho, hb, by rw [hk, hk']⟩) (fun k hk' => ⟨Sto.set_other _ _ hk', fun _ _ => rfl⟩) ?_ ?_ ?_ ?_ (by simp) rfl rfl rfl
  · rintro k o rfl ho'
    rw [Sto.set_same] at ho'; injection ho' with ho'; subst ho'
    refine ⟨bd, hb, ⟨htag, b, ms', ck', hk, hset.1, hr, hbo⟩, ?_⟩
    rintro b' hb'
    rw [hk] at hb'; injection hb' with hb'; subst hb'
    exact ⟨rfl, fun a v hv hab => h.sep k _ bd _ ho hb hk a v hv hab⟩
  · rintro k k' _ _ _ _ _ rfl rfl _ _ _ _ _ _; rfl
  · intro a v hv hn; rw [hv] at hn; cases hn
  · intro a v hv ht
    exact (h.sep l _ bd b ho hb hk a v hv ht).elim
theorem Inv.map_at {E M ι H w} (h : Inv E M ι H w) {l : Nat} {m : MapC} (ho : H l = some (.map m)) : ∃ bd b ms ck, ι l = some bd ∧ bd.tag = .map ∧ bd.blk = some b ∧ w.heap[b]? = some (.map (List.toArray ms) ck) ∧ RepMap M m ms ∧ BornOk ms ck := by
  obtain ⟨bd, e, htag, b, ms, ck, q1, q2, q3, q4⟩ := h.obj l _ ho
  exact ⟨bd, b, ms, ck, e, htag, q1, q2, q3, q4⟩

/-! ### What is asked -/
inductive MSetW (es : List (D × V)) (k : D) (v : V) (K : List (D × V) → Prop) : Prop
  | mk {es' : List (D × V)} (h : dset es k v = es') (k : K es')
inductive MGetW (es : List (D × V)) (k : D) (z : V) (K : V → Bool → Prop) : Prop
  | mk {u : V} {b : Bool} (hu : (dget es k).getD z = u) (hb : (dget es k).isSome = b) (k : K u b)
inductive MLenW (es : List (D × V)) (K : Int → Prop) : Prop
  | mk {n : Int} (h : (es.length : Int) = n) (k : K n)
section
variable {P : Program} {C : Ctx} {ops : Array Oper} {rest : List Oper} {ρ : List (Nat × V)} {σ : List (Nat × Option O)} {ls : List Nat} {K : List FP → A → Prop}
theorem t_makeMap {d : Nat} {t : TypeId} {ty pos af gd} (kc : Nat) (hg : guardIs ops (look ρ) ⟨some d, .makeMap t none, ty, pos, af, gd⟩ true) (hN : dstOk ⟨some d, .makeMap t none, ty, pos, af, gd⟩ C.N = true) (hl : memB d ls = false)
    (h : Tr P C ops rest ⟨(d, .map d) :: ρ, (d, some (.map ⟨kc, []⟩)) :: σ, d :: ls⟩ (fun fs x' => K (⟨Oper.looksAt ops ⟨some d, .makeMap t none, ty, pos, af, gd⟩, some d, [], [d]⟩ :: fs) x')) : Tr P C ops (⟨some d, .makeMap t none, ty, pos, af, gd⟩ :: rest) ⟨ρ, σ, ls⟩ K := by
  refine tr_op hg hN (vals := []) (fp := []) (wr := [(d, some (.map ⟨kc, []⟩))]) (v := .map d) rfl ?_ (fun _ _ h => by cases h) (fun l hl' _ => by simp at hl'; subst hl'; exact not_mem_of hl) h
  intro E M ι H w a next Q hi hG _ _ hfr hk
  have hfr' : ι d = none := hfr d (by simp) (by simp)
  have hrun : (execOp a.eval ⟨some d, .makeMap t none, ty, pos, af, gd⟩).run P w = .ok (.value (.map (some w.heap.size))) (w.alloc (.map #[] 0)) := by
    simp only [execOp, Option.map_none, Sem.run_bind, run_makeMap, Result.andThen_ok, Sem.run_pure]
  unfold Oper.wp
  rw [hrun, Oper.upon_value]
  obtain ⟨g1, g2⟩ := hi.alloc_map hfr' kc
  refine hk M _ _ _ g1 (fun l hl' => Env.set_other _ _ (by simpa using hl')) (by rw [Sto.upd_one]; exact g2) ?_
  simp only [RepV]
  exact ⟨_, _, Env.set_same _ _ _, rfl, rfl, rfl⟩
theorem t_mapUpdate {t kt et : TypeId} {x y z : Operand} {ty pos af gd} {l : Nat} {m : MapC} {k : D} {u v : V} (hle : VLe u v) (ht : P.underlying t = some (.map kt et)) (hkt : P.underlying kt = some (descOf m.kc)) (hx : opd C.G (look ρ) x = some (.map l)) (hy : opd C.G (look ρ) y = some (.d k)) (hz : opd C.G (look ρ) z = some u)
    (hk : kcOk m.kc k = true) (hv : v.on [] = true) (ho : lookO σ l = some (.map m))
    (hg : guardIs ops (look ρ) ⟨none, .mapUpdate t x y z, ty, pos, af, gd⟩ true)
    (h : Tr P C ops rest ⟨ρ, (l, some (.map ⟨m.kc, dset m.es k v⟩)) :: σ, l :: ls⟩ (fun fs x' => K (⟨Oper.looksAt ops ⟨none, .mapUpdate t x y z, ty, pos, af, gd⟩, none, [l], [l]⟩ :: fs) x')) : Tr P C ops (⟨none, .mapUpdate t x y z, ty, pos, af, gd⟩ :: rest) ⟨ρ, σ, ls⟩ K := by
  refine tr_op hg rfl (vals := [.map l, .d k, u]) (fp := [(l, .map m)]) (wr := [(l, some (.map ⟨m.kc, dset m.es k v⟩))]) (v := .any) ⟨_, _, rfl, hx, _, _, rfl, hy, _, _, rfl, hz, rfl⟩ ?_
    (fun l' o' hm => by simp at hm; obtain ⟨rfl, rfl⟩ := hm; exact ho) (fun l' h1 h2 => by simp at h1 h2; exact absurd h1 h2) h
  intro E M ι H w a next Q hi hG hfp hvs _ hkk
  have hH := hfp l (.map m) (by simp)
  simp only [Op.operands, List.map_cons, List.map_nil, RepVs, RepV] at hvs
  obtain ⟨v1, r1, e1, ⟨bd', b', p1, p2, p3, rfl⟩, v2, r2, e3, e4, v3, r3, e6, e7, _⟩ := hvs
  injection e1 with e1 e5
  rw [e3] at e5; injection e5 with e5 e8
  rw [e6] at e8; injection e8 with e8 _
  obtain ⟨bd, b, ms, ck, q1, q2, q3, q4, q5, q6⟩ := hi.map_at hH
  rw [p1] at q1; injection q1 with q1; subst q1
  rw [p3] at q3; injection q3 with q3; subst q3
  have hv0 : RepV M (fun _ => none) v v3 := RepV.on (S := []) (fun l hl => by simp at hl) v v3 hv (hle _ _ _ e7)
  have hkey := isKey_of hk e4
  have hks : ∀ x ∈ ms.toArray.toList, IsKey (descOf m.kc) x.key := fun x hx => RepEs.keys q5.1 q5.2 x (by simpa using hx)
  rcases find_es hk e4 hv hv0 0 q5.1 q5.2 with ⟨f1, f2, f3⟩ | ⟨j, e, y', f1, f2, f3, f4, f5, f6⟩
  · have hrun : (execOp a.eval ⟨none, .mapUpdate t x y z, ty, pos, af, gd⟩).run P w = .ok .skip { w with heap := w.heap.setIfInBounds b' (.map (ms ++ [MapEntry.mk v2 v3 ck]).toArray (ck + 1)) } := by
      have f1' : Instr.findNow (descOf m.kc) v2 ms.toArray.toList 0 = some none := by simpa using f1
      simp [execOp, e1, e5, e8, Instr.mapUpdate, run_underlying ht, MapKept.run_getObj_map q4, MapKept.run_checkKey hkt hkey, MapKept.run_findKey hkt f1', MapKept.run_setObj_map _ q4, Result.andThen]
    unfold Oper.wp
    rw [hrun, Oper.upon_skip]
    refine hkk M ι _ undef (Grow.refl _ _) (fun _ _ => rfl) ?_ (by simp [RepV])
    rw [Sto.upd_one]
    refine hi.write_map hH p1 p3 (m' := ⟨m.kc, dset m.es k v⟩) (ms' := ms ++ [MapEntry.mk v2 v3 ck]) (ck' := ck + 1) ⟨dset_keys hk q5.1, f3 ck⟩ ⟨?_, fun e he => ?_⟩
    · rw [List.map_append, List.nodup_append]
      refine ⟨q6.1, by simp, fun a ha b hb => ?_⟩
      simp at hb; subst hb
      obtain ⟨e, he, rfl⟩ := List.mem_map.1 ha
      have := q6.2 e he; omega
    · rcases List.mem_append.1 he with he | he
      · have := q6.2 e he; omega
      · simp at he; subst he; simp
  · have hj : (ms.toArray)[j]? = some e := by simpa using f2
    have hrun : (execOp a.eval ⟨none, .mapUpdate t x y z, ty, pos, af, gd⟩).run P w = .ok .skip { w with heap := w.heap.setIfInBounds b' (.map (ms.set j (MapEntry.mk v2 v3 e.born)).toArray ck) } := by
      have f1' : Instr.findNow (descOf m.kc) v2 ms.toArray.toList 0 = some (some (j, e.val)) := by simpa using f1
      have hmod : (ms.toArray.modify j fun e => { e with key := v2, val := v3 }) = (ms.set j (MapEntry.mk v2 v3 e.born)).toArray := by
        apply Array.ext_getElem?
        intro i
        simp only [Array.getElem?_modify, List.getElem?_toArray, List.getElem?_set]
        by_cases hij : j = i
        · subst hij
          have hlt : j < ms.length := (List.getElem?_eq_some_iff.1 f2).1
          have he := (List.getElem?_eq_some_iff.1 f2).2
          simp [hlt, he]
        · simp [hij]
      rw [← hmod]
      simp [execOp, e1, e5, e8, Instr.mapUpdate, run_underlying ht, MapKept.run_getObj_map q4, MapKept.run_checkKey hkt hkey, MapKept.run_findKey hkt f1', hj, f2, f3, MapKept.run_keyThatStays hkey, MapKept.run_setObj_map _ q4, Result.andThen]
    unfold Oper.wp
    rw [hrun, Oper.upon_skip]
    refine hkk M ι _ undef (Grow.refl _ _) (fun _ _ => rfl) ?_ (by simp [RepV])
    rw [Sto.upd_one]
    have hlt : j < ms.length := (List.getElem?_eq_some_iff.1 f2).1
    have hborn : (ms.set j (MapEntry.mk v2 v3 e.born)).map (·.born) = ms.map (·.born) := by
      apply List.ext_getElem?
      intro i
      simp only [List.getElem?_map, List.getElem?_set]
      by_cases hij : j = i
      · subst hij; simp [hlt, f2]; exact congrArg MapEntry.born ((List.getElem?_eq_some_iff.1 f2).2).symm
      · simp [hij]
    refine hi.write_map hH p1 p3 (m' := ⟨m.kc, dset m.es k v⟩) (ms' := ms.set j (MapEntry.mk v2 v3 e.born)) (ck' := ck) ⟨dset_keys hk q5.1, f6⟩ ⟨by rw [hborn]; exact q6.1, fun x hx => ?_⟩
    have : x.born ∈ (ms.set j (MapEntry.mk v2 v3 e.born)).map (·.born) := List.mem_map.2 ⟨x, hx, rfl⟩
    rw [hborn] at this
    obtain ⟨y0, hy0, e0⟩ := List.mem_map.1 this
    rw [← e0]; exact q6.2 y0 hy0
theorem dget_rep {M : Mem} {k : D} : ∀ {es : List (D × V)} {ms : List MapEntry} {y : V}, RepEs M es ms → dget es k = some y → y.on [] = true
  | [], _, _, _, h => by cases h
  | (a, x) :: r, ms, y, h, hd => by
    obtain ⟨e, ms', rfl, h1, h2, h3, h4⟩ := h
    unfold dget at hd
    split at hd
    · injection hd with hd; subst hd; exact h2
    · exact dget_rep h4 hd
theorem t_lookup {dst : Option Nat} {t kt et : TypeId} {x y : Operand} {c : Bool} {ty pos af gd} {l : Nat} {m : MapC} {k : D} {z : V} (ht : P.underlying t = some (.map kt et)) (hkt : P.underlying kt = some (descOf m.kc)) (hz : ZeroV P et z) (hx : opd C.G (look ρ) x = some (.map l)) (hy : opd C.G (look ρ) y = some (.d k))
    (hk : kcOk m.kc k = true) (ho : lookO σ l = some (.map m))
    (hg : guardIs ops (look ρ) ⟨dst, .lookup t x y c, ty, pos, af, gd⟩ true) (hN : dstOk ⟨dst, .lookup t x y c, ty, pos, af, gd⟩ C.N = true)
    (h : Tr P C ops rest ⟨putL ρ dst (if c then .tup [(dget m.es k).getD z, .d (.bool (dget m.es k).isSome)] else (dget m.es k).getD z), σ, ls⟩ (fun fs x' => K (⟨Oper.looksAt ops ⟨dst, .lookup t x y c, ty, pos, af, gd⟩, dst, [l], []⟩ :: fs) x')) : Tr P C ops (⟨dst, .lookup t x y c, ty, pos, af, gd⟩ :: rest) ⟨ρ, σ, ls⟩ K := by
  refine tr_op hg hN (vals := [.map l, .d k]) (fp := [(l, .map m)]) (wr := []) (v := if c then .tup [(dget m.es k).getD z, .d (.bool (dget m.es k).isSome)] else (dget m.es k).getD z) ⟨_, _, rfl, hx, _, _, rfl, hy, rfl⟩ ?_
    (fun l' o' hm => by simp at hm; obtain ⟨rfl, rfl⟩ := hm; exact ho) (fun l' h1 h2 => by simp at h1) h
  intro E M ι H w a next Q hi hG hfp hvs _ hkk
  have hH := hfp l (.map m) (by simp)
  simp only [Op.operands, List.map_cons, List.map_nil, RepVs, RepV] at hvs
  obtain ⟨v1, r1, e1, ⟨bd', b', p1, p2, p3, rfl⟩, v2, r2, e3, e4, _⟩ := hvs
  injection e1 with e1 e5
  rw [e3] at e5; injection e5 with e5 _
  obtain ⟨bd, b, ms, ck, q1, q2, q3, q4, q5, q6⟩ := hi.map_at hH
  rw [p1] at q1; injection q1 with q1; subst q1
  rw [p3] at q3; injection q3 with q3; subst q3
  have hkey := isKey_of hk e4
  obtain ⟨inf, zv, z1, z2, z3⟩ := hz.out
  have up : ∀ {x : V} {v : Value}, x.on [] = true → RepV M (fun _ => none) x v → RepV M ι x v := fun {x v} hon hr => RepV.on (S := []) (fun l hl => by simp at hl) x v hon hr
  have fin : ∀ (u : V) (v : Value) (ok : Bool), u.on [] = true → RepV M (fun _ => none) u v → (execOp a.eval ⟨dst, .lookup t x y c, ty, pos, af, gd⟩).run P w = .ok (.value (if c then .tuple #[v, .bool ok] else v)) w → (dget m.es k).getD z = u → (dget m.es k).isSome = ok → Oper.wp P ⟨dst, .lookup t x y c, ty, pos, af, gd⟩ a w next Q := by
    intro u v ok hon hr hrun hu hok
    unfold Oper.wp
    rw [hrun, Oper.upon_value]
    refine hkk M ι w _ (Grow.refl _ _) (fun _ _ => rfl) hi ?_
    rw [hu, hok]
    cases c with
    | true => simp only [if_true, RepV, RepVs, RepD]; exact ⟨_, rfl, _, _, rfl, up hon hr, _, _, rfl, rfl, rfl⟩
    | false => exact up hon hr
  obtain ⟨x0, hx0⟩ : ∃ x0 : V, x0.on [] = true ∧ ∃ v0, RepV M (fun _ => none) x0 v0 := ⟨.any, rfl, .bool true, by simp [RepV]⟩
  rcases find_es hk e4 hx0.1 hx0.2.choose_spec 0 q5.1 q5.2 with ⟨f1, f2, _⟩ | ⟨j, e, y', f1, f2, f3, f4, f5, _⟩
  · refine fin z zv false hz.on (z3 M) ?_ (by rw [f2]; rfl) (by rw [f2]; rfl)
    have f1' : Instr.findNow (descOf m.kc) v2 ms.toArray.toList 0 = some none := by simpa using f1
    cases c <;> simp [execOp, e1, e5, Instr.lookup, run_underlying ht, MapKept.run_getObj_map q4, MapKept.run_checkKey hkt hkey, MapKept.run_findKey hkt f1', zeroValue, typeInfo, z1, z2, Result.andThen]
  · refine fin y' e.val true (dget_rep q5.2 f4) f5 ?_ (by rw [f4]; rfl) (by rw [f4]; rfl)
    have f1' : Instr.findNow (descOf m.kc) v2 ms.toArray.toList 0 = some (some (j, e.val)) := by simpa using f1
    cases c <;> simp [execOp, e1, e5, Instr.lookup, run_underlying ht, MapKept.run_getObj_map q4, MapKept.run_checkKey hkt hkey, MapKept.run_findKey hkt f1', Result.andThen]
theorem t_lenMap {dst : Option Nat} {t kt et : TypeId} {x : Operand} {ty pos af gd} {l : Nat} {m : MapC} (ht : P.underlying t = some (.map kt et)) (hx : opd C.G (look ρ) x = some (.map l)) (ho : lookO σ l = some (.map m))
    (hg : guardIs ops (look ρ) ⟨dst, .call { callee := .builtin .len, args := #[x], argTypes := #[t] }, ty, pos, af, gd⟩ true) (hN : dstOk ⟨dst, .call { callee := .builtin .len, args := #[x], argTypes := #[t] }, ty, pos, af, gd⟩ C.N = true)
    (h : Tr P C ops rest ⟨putL ρ dst (.d (.int .i64 m.es.length)), σ, ls⟩ (fun fs x' => K (⟨Oper.looksAt ops ⟨dst, .call { callee := .builtin .len, args := #[x], argTypes := #[t] }, ty, pos, af, gd⟩, dst, [l], []⟩ :: fs) x')) : Tr P C ops (⟨dst, .call { callee := .builtin .len, args := #[x], argTypes := #[t] }, ty, pos, af, gd⟩ :: rest) ⟨ρ, σ, ls⟩ K := by
  refine tr_op hg hN (vals := [.map l]) (fp := [(l, .map m)]) (wr := []) (v := .d (.int .i64 m.es.length)) ⟨_, _, rfl, hx, rfl⟩ ?_
    (fun l' o' hm => by simp at hm; obtain ⟨rfl, rfl⟩ := hm; exact ho) (fun l' h1 h2 => by simp at h1) h
  intro E M ι H w a next Q hi hG hfp hvs _ hkk
  have hH := hfp l (.map m) (by simp)
  simp only [Op.operands, Call.operands, List.map_cons, List.map_nil, RepVs, RepV] at hvs
  obtain ⟨v1, r1, e1, ⟨bd', b', p1, p2, p3, rfl⟩, _⟩ := hvs
  injection e1 with e1 _
  obtain ⟨bd, b, ms, ck, q1, q2, q3, q4, q5, q6⟩ := hi.map_at hH
  rw [p1] at q1; injection q1 with q1; subst q1
  rw [p3] at q3; injection q3 with q3; subst q3
  have hrun : (execOp a.eval ⟨dst, .call { callee := .builtin .len, args := #[x], argTypes := #[t] }, ty, pos, af, gd⟩).run P w = .ok (.value (.int .i64 m.es.length)) w := by
    have e1' : a.eval x = .map (some b') := e1
    simp [execOp, resolve, invoke, builtin, Builtin.len_, e1', run_underlying ht, MapKept.run_getObj_map q4, goInt, RepEs.length q5.2]
  unfold Oper.wp
  rw [hrun, Oper.upon_value]
  exact hkk M ι w _ (Grow.refl _ _) (fun _ _ => rfl) hi (by simp only [RepV, RepD])
end
end Go.AM

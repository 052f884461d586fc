/-
  The operations, third part: slices, append, calls; and how a state is weakened.
-/
import Derived.Test.YtdbgmmeenljnoaaGreatDoorAmF
set_option linter.unusedVariables false
set_option linter.unusedSimpArgs false
namespace Go.AM
open Go Go.RowKit

/-- What a slice's variable holds, in whatever form. -/
inductive IsSlice : V → List (List D) → Prop
  | d {es} : IsSlice (.d (.slice es)) es
  | nils : IsSlice (.d .nils) []
  | full {es} : IsSlice (.full es) es
  | own {es l} : IsSlice (.own es l) es
theorem IsSlice.rep {x : V} {es : List (List D)} (h : IsSlice x es) {M : Mem} {ι : Env} {v : Value} (hr : RepV M ι x v) : RepD M (.slice es) v := by
  cases h with
  | d => simpa only [RepV] using hr
  | nils => have := VLe.nils M ι v hr; simpa only [RepV] using this
  | full => simp only [RepV] at hr; exact hr.1
  | own => simp only [RepV] at hr; exact hr.1

/-- A value as an element of a slice. -/
structure Elem (x : V) (e : List D) : Prop where
  rep : ∀ M ι v, RepV M ι x v → RepVs M ι (e.map V.d) v.cells.toList ∧ ∀ u ∈ v.cells.toList, u.oneCell' = true
theorem Elem.d {x : D} : Elem (.d x) [x] := ⟨fun M ι v h => Cells.rep .d h⟩
theorem Elem.slice {x : V} {es : List (List D)} (h : IsSlice x es) : Elem x [.slice es] := ⟨fun M ι v hr => Cells.rep (x := .d (.slice es)) .d (by simp only [RepV]; exact h.rep hr)⟩
theorem Elem.agg {e : List D} {vs : List V} (h : VLes vs (e.map V.d)) : Elem (.agg vs) e := ⟨fun M ι v hr => Cells.rep (x := .agg (e.map V.d)) .agg (VLe.agg h M ι v hr)⟩
inductive Elems : List V → List (List D) → Prop
  | nil : Elems [] []
  | cons {x xs e es} : Elem x e → Elems xs es → Elems (x :: xs) (e :: es)

theorem RepRows.flat {M : Mem} : ∀ {es : List (List D)} {ad : Addr}, ad.spot = none → RepRow M es.flatten ad → RepRows M es ad
  | [], _, _, _ => by simp [RepRows]
  | e :: es, ad, hs, h => by
    simp only [List.flatten_cons] at h
    rw [RepRow.app hs] at h
    simp only [RepRows]
    exact ⟨h.1, RepRows.flat (add_spot hs _) h.2⟩
theorem RepRows.unflat {M : Mem} : ∀ {es : List (List D)} {ad : Addr}, ad.spot = none → RepRows M es ad → RepRow M es.flatten ad
  | [], _, _, _ => by simp [RepRow]
  | e :: es, ad, hs, h => by
    simp only [RepRows] at h
    simp only [List.flatten_cons]
    rw [RepRow.app hs]
    exact ⟨h.1, RepRows.unflat (add_spot hs _) h.2⟩
theorem flat_len {es : List (List D)} {sz : Nat} (h : ∀ e ∈ es, e.length = sz) : es.flatten.length = es.length * sz := by
  induction es with
  | nil => simp
  | cons e es ih =>
    have := ih (fun x hx => h x (List.mem_cons_of_mem _ hx))
    have he := h e List.mem_cons_self
    simp only [List.flatten_cons, List.length_append, List.length_cons, this, he, Nat.add_mul]
    omega

/-- A slice that holds cells of memory that never turns. -/
theorem RepD.slice_of {M : Mem} {ι : Env} {es : List (List D)} {sz : Nat} {ad : Addr} {vs : List Value} {n c : Nat} (hn : es.length = n) (hc : n ≤ c) (hm : n ≤ maxLen) (hsz : ∀ e ∈ es, e.length = sz) (hs : ad.spot = none)
    (hr : RepVs M ι (es.flatten.map V.d) vs) (hmem : ∀ j v, vs[j]? = some v → M (ad.add j) = some v) : RepD M (.slice es) (.slice (some ad) n c) := by
  simp only [RepD]
  exact ⟨some ad, c, sz, by rw [hn], by omega, by omega, hsz, fun _ => ⟨ad, rfl, hs, RepRows.flat hs (RepRow.of hs hr hmem)⟩⟩

theorem mem_add_hit {M : Mem} {b : Nat} {news : List Value} {j : Nat} {v : Value} (h : news[j]? = some v) : M.add b 0 news ((⟨b, 0, none⟩ : Addr).add j) = some v := by
  have := Mem.add_in (M := M) (b := b) (lo := 0) h
  have e : (⟨b, 0, none⟩ : Addr).add j = ⟨b, 0 + j, none⟩ := by simp only [Addr.add]; split <;> simp_all
  rwa [e]

section
variable {P : Program} {C : Ctx} {ops : Array Oper} {rest : List Oper} {ρ : List (Nat × V)} {σ : List (Nat × Option O)} {ls : List Nat} {K : List FP → A → Prop}

theorem t_len {dst : Option Nat} {c : Call} {x : Operand} {t : TypeId} {ty pos af gd} {vx : V} {es : List (List D)} {e n b : Nat} (hc : c = { callee := .builtin .len, args := #[x], argTypes := #[t] }) (ht : Sli P t e n b) (hx : opd C.G (look ρ) x = some vx) (hs : IsSlice vx es)
    (hg : guardIs ops (look ρ) ⟨dst, .call c, ty, pos, af, gd⟩ true) (hN : dstOk ⟨dst, .call c, ty, pos, af, gd⟩ C.N = true)
    (h : Tr P C ops rest ⟨putL ρ dst (.d (.int .i64 es.length)), σ, ls⟩ (fun fs x' => K (⟨Oper.looksAt ops ⟨dst, .call c, ty, pos, af, gd⟩, dst, [], []⟩ :: fs) x')) : Tr P C ops (⟨dst, .call c, ty, pos, af, gd⟩ :: rest) ⟨ρ, σ, ls⟩ K := by
  subst hc
  refine tr_one (x := x) rfl hx hg hN (fun M ι a w _ hr => ?_) h
  have hd := hs.rep hr
  simp only [RepD] at hd
  obtain ⟨ad, cp, sz, e1, _⟩ := hd
  refine ⟨.int .i64 es.length, ?_, by simp only [RepV, RepD]⟩
  simp [execOp, resolve, invoke, builtin, Builtin.len_, e1, run_underlying ht.und, goInt]

theorem t_len_str {dst : Option Nat} {c : Call} {x : Operand} {t : TypeId} {ty pos af gd} {s : ByteArray} (hc : c = { callee := .builtin .len, args := #[x], argTypes := #[t] }) (ht : P.underlying t = some .string) (hx : opd C.G (look ρ) x = some (.d (.str s)))
    (hg : guardIs ops (look ρ) ⟨dst, .call c, ty, pos, af, gd⟩ true) (hN : dstOk ⟨dst, .call c, ty, pos, af, gd⟩ C.N = true)
    (h : Tr P C ops rest ⟨putL ρ dst (.d (.int .i64 s.size)), σ, ls⟩ (fun fs x' => K (⟨Oper.looksAt ops ⟨dst, .call c, ty, pos, af, gd⟩, dst, [], []⟩ :: fs) x')) : Tr P C ops (⟨dst, .call c, ty, pos, af, gd⟩ :: rest) ⟨ρ, σ, ls⟩ K := by
  subst hc
  refine tr_one (x := x) rfl hx hg hN (fun M ι a w _ hr => ?_) h
  simp only [RepV, RepD] at hr
  refine ⟨.int .i64 s.size, ?_, by simp only [RepV, RepD]⟩
  simp [execOp, resolve, invoke, builtin, Builtin.len_, hr, run_underlying ht, goInt]

/-- An element's address. -/
theorem t_indexAddr {dst : Option Nat} {t : TypeId} {x y : Operand} {ty pos af gd} {vx : V} {es : List (List D)} {el : List D} {e n b : Nat} {k : IntKind} {i : Int} (ht : Sli P t e n b) (hx : opd C.G (look ρ) x = some vx) (hs : IsSlice vx es) (hy : opd C.G (look ρ) y = some (.d (.int k i)))
    (h0 : 0 ≤ i) (hi : es[i.toNat]? = some el) (hn : el.length = n)
    (hg : guardIs ops (look ρ) ⟨dst, .indexAddr t x y, ty, pos, af, gd⟩ true) (hN : dstOk ⟨dst, .indexAddr t x y, ty, pos, af, gd⟩ C.N = true)
    (h : Tr P C ops rest ⟨putL ρ dst (.cptr el), σ, ls⟩ (fun fs x' => K (⟨Oper.looksAt ops ⟨dst, .indexAddr t x y, ty, pos, af, gd⟩, dst, [], []⟩ :: fs) x')) : Tr P C ops (⟨dst, .indexAddr t x y, ty, pos, af, gd⟩ :: rest) ⟨ρ, σ, ls⟩ K := by
  refine tr_two rfl hx hy hg hN (fun M ι a w _ hr1 hr2 => ?_) h
  have hd := hs.rep hr1
  simp only [RepD] at hd
  simp only [RepV, RepD] at hr2
  obtain ⟨ao, cp, sz, e1, e2, e3, e4, e5⟩ := hd
  have hlt : i.toNat < es.length := (List.getElem?_eq_some_iff.1 hi).1
  have hne : es ≠ [] := fun e => by subst e; simp at hlt
  obtain ⟨ad, rfl, hsp, hrows⟩ := e5 hne
  have hszn : sz = n := by rw [← hn]; exact (e4 el (List.mem_of_getElem? hi)).symm
  subst hszn
  obtain ⟨inf, z, i1, i2, _⟩ := ht.info
  have hin : (0 ≤ i ∧ i < (es.length : Int)) := ⟨h0, by omega⟩
  refine ⟨.pointer (some (ad.add (i.toNat * sz))), ?_, ?_⟩
  · simp [execOp, Instr.indexAt, asIntOf, hr2, e1, run_underlying ht.und, hin, sizeOf, typeInfo, i1, i2]
  · simp only [RepV]
    exact ⟨_, rfl, add_spot hsp _, RepRows.get hsp e4 hrows hi⟩

/-- An array's cell, by its address. -/
def arrB (P : Program) (t len e n : Nat) : Bool :=
  match P.underlying t, P.info? e with
  | some (.array l e'), some i => Nat.beq l len && Nat.beq e' e && Nat.beq i.size n
  | _, _ => false
structure Arr (P : Program) (t len e n : Nat) : Prop where
  und : P.underlying t = some (.array len e)
  info : ∃ i, P.info? e = some i ∧ i.size = n
theorem Arr.of {t len e n : Nat} (h : arrB P t len e n = true) : Arr P t len e n := by
  unfold arrB at h
  split at h
  · rename_i l e' i h1 h2
    simp only [Bool.and_eq_true] at h
    have a1 := Nat.eq_of_beq_eq_true h.1.1
    have a2 := Nat.eq_of_beq_eq_true h.1.2
    subst a1; subst a2
    exact ⟨h1, ⟨i, h2, Nat.eq_of_beq_eq_true h.2⟩⟩
  · cases h
/-- An array, put together. -/
theorem t_build_arr {dst : Option Nat} {t : TypeId} {parts : Array (Nat × Operand)} {ty pos af gd} {zs : List D} {len e n : Nat} {vals : List V} {uss : List (List V)} {res : List V} (hz : Zer P t zs) (hp : Arr P t len e n) (hx : Opds C.G (look ρ) (parts.toList.map (·.2)) vals) (hc : CellsAll vals uss)
    (hb : buildV ((List.range len).map fun k => (k * n, n)) (zs.map V.d) ((parts.toList.map (·.1)).zip uss) = some res)
    (hg : guardIs ops (look ρ) ⟨dst, .build t parts, ty, pos, af, gd⟩ true) (hN : dstOk ⟨dst, .build t parts, ty, pos, af, gd⟩ C.N = true)
    (h : Tr P C ops rest ⟨putL ρ dst (.agg res), σ, ls⟩ (fun fs x' => K (⟨Oper.looksAt ops ⟨dst, .build t parts, ty, pos, af, gd⟩, dst, [], []⟩ :: fs) x')) : Tr P C ops (⟨dst, .build t parts, ty, pos, af, gd⟩ :: rest) ⟨ρ, σ, ls⟩ K := by
  obtain ⟨i, z, h1, h2, h3⟩ := hz.rep
  obtain ⟨j, p3, p4⟩ := hp.info
  have p1 := hp.und
  refine tr_pure hg hN (vals := vals) (by simpa [Op.operands] using hx) (aop_value fun M ι a w _ hvs => ?_) h
  have hvs' : RepVs M ι vals ((parts.toList.map (·.2)).map a.eval) := by simpa [Op.operands] using hvs
  have hall := CellsAll.get hc hvs'
  have hlen := hvs'.length
  simp only [List.length_map] at hlen
  have hfill := fill_run (M := M) (ι := ι) (place := fun k => some (k * n, n)) (ps := (List.range len).map fun k => (k * n, n)) (fun k p h => by
    rw [List.getElem?_map, Option.map_eq_some_iff] at h
    obtain ⟨q, h4, h5⟩ := h
    have h6 := (List.getElem?_eq_some_iff.1 h4)
    obtain ⟨h7, h8⟩ := h6
    rw [List.getElem_range] at h8
    subst h8
    exact congrArg some h5) ((parts.toList.map (·.1)).zip uss) (parts.toList.map fun p => (p.1, a.eval p.2)) (zs.map V.d) z.cells res (h3 M ι) ⟨by rw [List.length_zip, List.length_map, List.length_map, ← hall.1, ← hlen]; simp, fun k i us j v e1 e2 => ?hh⟩ hb
  case hh =>
    rw [List.getElem?_zip_eq_some] at e1
    simp only [List.getElem?_map, Option.map_eq_some_iff] at e1 e2
    obtain ⟨⟨p, e3, e4⟩, e5⟩ := e1
    obtain ⟨p', e6, e7⟩ := e2
    rw [e3] at e6; injection e6 with e6; subst e6
    injection e7 with e7 e8
    refine ⟨by rw [← e4, ← e7], ?_⟩
    exact (hall.2 k us v e5 (by simp [e3, e8])).1
  obtain ⟨cs', f1, f2, f3⟩ := hfill
  refine ⟨.agg cs', ?_, ?_⟩
  · simp only [execOp, Instr.build, zeroValue, typeInfo, underlying, Sem.run_bind, run_program, Result.andThen_ok, h1, h2, Sem.run_pure, p1, sizeOf, p3, p4]
    rw [show (parts.map fun x => match x with | (i, x) => (i, a.eval x)).toList = parts.toList.map fun p => (p.1, a.eval p.2) by simp]
    rw [f1]
    simp
  · simp only [RepV]
    refine ⟨cs'.toList, by simp, f2, fun x hx => ?_⟩
    rcases f3 x hx with h' | ⟨p, hp', h'⟩
    · obtain ⟨k, hk⟩ := List.getElem?_of_mem h'
      have hr := h3 M ι
      have hlt : k < zs.length := by
        have := (List.getElem?_eq_some_iff.1 hk).1
        have e := hr.length; simp at e; simp at this; omega
      obtain ⟨u, k1, k2⟩ := hr.get (i := k) (c := V.d zs[k]) (by simp [hlt])
      rw [hk] at k1; injection k1 with k1; subst k1
      simp only [RepV] at k2
      exact k2.one
    · obtain ⟨k, hk⟩ := List.getElem?_of_mem hp'
      have hlt : k < parts.toList.length := by
        have := (List.getElem?_eq_some_iff.1 hk).1; simpa using this
      simp only [List.getElem?_map, Option.map_eq_some_iff] at hk
      obtain ⟨q, q1, q2⟩ := hk
      have hlu : k < uss.length := by rw [← hall.1]; omega
      refine (hall.2 k uss[k] p.2 (List.getElem?_eq_getElem hlu) ?_).2 x h'
      simp [q1, ← q2]
theorem t_indexArr_c {dst : Option Nat} {t : TypeId} {x y : Operand} {ty pos af gd} {cs ds : List D} {len e n : Nat} {k : IntKind} {i : Int} (ht : Arr P t len e n) (hx : opd C.G (look ρ) x = some (.cptr cs)) (hy : opd C.G (look ρ) y = some (.d (.int k i)))
    (h0 : 0 ≤ i) (hi : i < len) (hd : cs.drop (i.toNat * n) = ds) (hle : i.toNat * n ≤ cs.length)
    (hg : guardIs ops (look ρ) ⟨dst, .indexAddr t x y, ty, pos, af, gd⟩ true) (hN : dstOk ⟨dst, .indexAddr t x y, ty, pos, af, gd⟩ C.N = true)
    (h : Tr P C ops rest ⟨putL ρ dst (.cptr ds), σ, ls⟩ (fun fs x' => K (⟨Oper.looksAt ops ⟨dst, .indexAddr t x y, ty, pos, af, gd⟩, dst, [], []⟩ :: fs) x')) : Tr P C ops (⟨dst, .indexAddr t x y, ty, pos, af, gd⟩ :: rest) ⟨ρ, σ, ls⟩ K := by
  refine tr_two rfl hx hy hg hN (fun M ι a w _ hr1 hr2 => ?_) h
  simp only [RepV, RepD] at hr1 hr2
  obtain ⟨ad, e1, e2, e3⟩ := hr1
  obtain ⟨inf, i1, i2⟩ := ht.info
  refine ⟨.pointer (some (ad.add (i.toNat * n))), ?_, ?_⟩
  · simp [execOp, Instr.indexAt, Instr.sureAddr, asIntOf, hr2, e1, run_underlying ht.und, h0, hi, sizeOf, typeInfo, i1, i2]
  · simp only [RepV]
    refine ⟨_, rfl, add_spot e2 _, ?_⟩
    rw [← List.take_append_drop (i.toNat * n) cs, RepRow.app e2] at e3
    have := e3.2
    rw [List.length_take, Nat.min_eq_left hle, hd] at this
    exact this
theorem t_indexArr {dst : Option Nat} {t : TypeId} {x y : Operand} {ty pos af gd} {l off : Nat} {len e n : Nat} {k : IntKind} {i : Int} (ht : Arr P t len e n) (hx : opd C.G (look ρ) x = some (.ptr l off)) (hy : opd C.G (look ρ) y = some (.d (.int k i)))
    (h0 : 0 ≤ i) (hi : i < len)
    (hg : guardIs ops (look ρ) ⟨dst, .indexAddr t x y, ty, pos, af, gd⟩ true) (hN : dstOk ⟨dst, .indexAddr t x y, ty, pos, af, gd⟩ C.N = true)
    (h : Tr P C ops rest ⟨putL ρ dst (.ptr l (off + i.toNat * n)), σ, ls⟩ (fun fs x' => K (⟨Oper.looksAt ops ⟨dst, .indexAddr t x y, ty, pos, af, gd⟩, dst, [], []⟩ :: fs) x')) : Tr P C ops (⟨dst, .indexAddr t x y, ty, pos, af, gd⟩ :: rest) ⟨ρ, σ, ls⟩ K := by
  refine tr_two rfl hx hy hg hN (fun M ι a w _ hr1 hr2 => ?_) h
  simp only [RepV, RepD] at hr1 hr2
  obtain ⟨bd, b, e1, e2, e3, e4⟩ := hr1
  obtain ⟨inf, i1, i2⟩ := ht.info
  refine ⟨.pointer (some ⟨b, off + i.toNat * n, none⟩), ?_, ?_⟩
  · simp [execOp, Instr.indexAt, Instr.sureAddr, asIntOf, hr2, e4, run_underlying ht.und, h0, hi, sizeOf, typeInfo, i1, i2, Addr.add]
    try (by_cases hz : i.toNat = 0 ∨ n = 0
         · rcases hz with hz | hz <;> simp [hz]
         · rw [if_neg hz])
  · simp only [RepV]; exact ⟨bd, b, e1, e2, e3, rfl⟩

theorem RepD.cut {M : Mem} {es : List (List D)} {v : Value} {l h : Nat} (hr : RepD M (.slice es) v) (h1 : l ≤ h) (h2 : h ≤ es.length) : ∃ a cp, v = .slice a es.length cp ∧ es.length ≤ cp ∧ es.length ≤ maxLen ∧ ∀ (sz m : Nat), (∀ e ∈ es, e.length = sz) → h ≤ m → m ≤ cp →
    RepD M (.slice ((es.take h).drop l)) (.slice (if m = l then a else a.map (·.add (l * sz))) (h - l) (m - l)) := by
  simp only [RepD] at hr
  obtain ⟨a, cp, sz0, e1, e2, e3, e4, e5⟩ := hr
  refine ⟨a, cp, e1, e2, e3, fun sz m hsz hm1 hm2 => ?_⟩
  have hlen : ((es.take h).drop l).length = h - l := by simp; omega
  have hall : ∀ e ∈ (es.take h).drop l, e.length = sz := fun e he => hsz e (List.mem_of_mem_take (List.mem_of_mem_drop he))
  simp only [RepD]
  refine ⟨_, m - l, sz, by rw [hlen], by omega, by omega, hall, fun hne => ?_⟩
  have hpos : 0 < h - l := by
    rw [← hlen]; exact List.length_pos_iff.2 hne
  have hne2 : es ≠ [] := fun e => by subst e; simp at h2; omega
  obtain ⟨ad, rfl, hs, hrows⟩ := e5 hne2
  have hml : ¬ m = l := by omega
  refine ⟨ad.add (l * sz), by simp [hml], add_spot hs _, ?_⟩
  have h3 : es = (es.take l) ++ ((es.take h).drop l) ++ es.drop h := by
    have : es.take l = (es.take h).take l := by rw [List.take_take, Nat.min_eq_left h1]
    rw [this, List.take_append_drop, List.take_append_drop]
  rw [h3, RepRows.app hs (fun e he => by
    rcases List.mem_append.1 he with he | he
    · exact hsz e (List.mem_of_mem_take he)
    · exact hall e he), RepRows.app hs (fun e he => hsz e (List.mem_of_mem_take he))] at hrows
  have := hrows.1.2
  rwa [List.length_take, Nat.min_eq_left (by omega)] at this

/-- A cut, run. -/
theorem run_slice {M : Mem} {es : List (List D)} {v : Value} {t e n b : Nat} (ht : Sli P t e n b) (hd : RepD M (.slice es) v) (hel : ∀ el ∈ es, el.length = n) {lo hi : Option Value} {l h : Int}
    (hlo : (lo = none ∧ l = 0) ∨ ∃ k, lo = some (.int k l)) (hhi : (hi = none ∧ h = es.length) ∨ ∃ k, hi = some (.int k h)) (h0 : 0 ≤ l) (h1 : l ≤ h) (h2 : h ≤ es.length) (w : World) :
    ∃ cv, (Instr.sliceAt t v lo hi none).run P w = .ok cv w ∧ RepD M (.slice ((es.take h.toNat).drop l.toNat)) cv := by
  obtain ⟨ad, cp, c1, c2, c3, c4⟩ := RepD.cut (l := l.toNat) (h := h.toNat) hd (by omega) (by omega)
  obtain ⟨inf, z, i1, i2, _⟩ := ht.info
  have hcp : (h : Int) ≤ cp := by omega
  have bl : (Instr.sliceBounds true es.length cp lo hi none).run P w = .ok (l.toNat, h.toNat, cp) w := by
    rcases hlo with ⟨rfl, rfl⟩ | ⟨k, rfl⟩ <;> rcases hhi with ⟨rfl, rfl⟩ | ⟨k', rfl⟩
    · simp [Instr.sliceBounds]
    · simp [Instr.sliceBounds, Instr.sliceBound, asIntOf, show (0:Int) ≤ h by omega, hcp]
    · simp [Instr.sliceBounds, Instr.sliceBound, asIntOf, h0, h1]
    · have hmax : (max h 0 : Int) = h := by omega
      simp [Instr.sliceBounds, Instr.sliceBound, asIntOf, h0, show (0:Int) ≤ h by omega, hcp, hmax, h1]
  refine ⟨.slice (if cp = l.toNat then ad else ad.map (·.add (l.toNat * n))) (h.toNat - l.toNat) (cp - l.toNat), ?_, c4 n cp hel (by omega) (Nat.le_refl _)⟩
  simp only [Instr.sliceAt, Instr.slice, run_underlying ht.und, Sem.run_bind, Result.andThen_ok, c1, bl, sizeOf, typeInfo, run_program, i1, i2, Sem.run_pure]
/-- A cut up to a length that is its room too: there is none left. -/
theorem run_slice3 {M : Mem} {es : List (List D)} {v : Value} {t e n b : Nat} (ht : Sli P t e n b) (hd : RepD M (.slice es) v) (hel : ∀ el ∈ es, el.length = n) {k k' : IntKind} {h : Int} (h0 : 0 ≤ h) (h2 : h ≤ es.length) (w : World) :
    ∃ cv, (Instr.sliceAt t v none (some (.int k h)) (some (.int k' h))).run P w = .ok cv w ∧ RepD M (.slice (es.take h.toNat)) cv ∧ ∃ a, cv = .slice a (es.take h.toNat).length (es.take h.toNat).length := by
  obtain ⟨ad, cp, c1, c2, c3, c4⟩ := RepD.cut (l := 0) (h := h.toNat) hd (by omega) (by omega)
  obtain ⟨inf, z, i1, i2, _⟩ := ht.info
  have hcp : (h : Int) ≤ cp := by omega
  have hmax : (max h 0 : Int) = h := by omega
  have bl : (Instr.sliceBounds true es.length cp none (some (.int k h)) (some (.int k' h))).run P w = .ok (0, h.toNat, h.toNat) w := by
    simp [Instr.sliceBounds, Instr.sliceBound, asIntOf, h0, hcp, hmax]
  have hr := c4 n h.toNat hel (Nat.le_refl _) (by omega)
  have hl : (es.take h.toNat).length = h.toNat := by simp; omega
  refine ⟨.slice (if h.toNat = 0 then ad else ad.map (·.add (0 * n))) (h.toNat - 0) (h.toNat - 0), ?_, by simpa using hr, _, by rw [hl]; rfl⟩
  simp only [Instr.sliceAt, Instr.slice, run_underlying ht.und, Sem.run_bind, Result.andThen_ok, c1, bl, sizeOf, typeInfo, run_program, i1, i2, Sem.run_pure]

theorem t_slice {dst : Option Nat} {t : TypeId} {x : Operand} {ty pos af gd} {vx : V} {es : List (List D)} {e n b : Nat} (ht : Sli P t e n b) (hx : opd C.G (look ρ) x = some vx) (hs : IsSlice vx es) (hel : ∀ el ∈ es, el.length = n)
    (hg : guardIs ops (look ρ) ⟨dst, .slice t x none none none, ty, pos, af, gd⟩ true) (hN : dstOk ⟨dst, .slice t x none none none, ty, pos, af, gd⟩ C.N = true)
    (hk : Tr P C ops rest ⟨putL ρ dst (.d (.slice es)), σ, ls⟩ (fun fs x' => K (⟨Oper.looksAt ops ⟨dst, .slice t x none none none, ty, pos, af, gd⟩, dst, [], []⟩ :: fs) x')) : Tr P C ops (⟨dst, .slice t x none none none, ty, pos, af, gd⟩ :: rest) ⟨ρ, σ, ls⟩ K := by
  refine tr_one (x := x) rfl hx hg hN (fun M ι a w _ hr => ?_) hk
  obtain ⟨cv, h1, h2⟩ := run_slice (P := P) ht (hs.rep hr) hel (lo := none) (hi := none) (l := 0) (h := es.length) (.inl ⟨rfl, rfl⟩) (.inl ⟨rfl, rfl⟩) (by omega) (by omega) (by omega) w
  exact ⟨cv, by simp only [execOp, Option.map_none, h1, Sem.run_bind, Result.andThen_ok, Sem.run_pure], by simp only [RepV]; simpa using h2⟩
theorem t_slice_h {dst : Option Nat} {t : TypeId} {x y : Operand} {ty pos af gd} {vx : V} {es fs : List (List D)} {e n b : Nat} {k : IntKind} {h : Int} (ht : Sli P t e n b) (hx : opd C.G (look ρ) x = some vx) (hs : IsSlice vx es) (hel : ∀ el ∈ es, el.length = n) (hy : opd C.G (look ρ) y = some (.d (.int k h)))
    (h0 : 0 ≤ h) (h2 : h ≤ es.length) (hf : es.take h.toNat = fs)
    (hg : guardIs ops (look ρ) ⟨dst, .slice t x none (some y) none, ty, pos, af, gd⟩ true) (hN : dstOk ⟨dst, .slice t x none (some y) none, ty, pos, af, gd⟩ C.N = true)
    (hk : Tr P C ops rest ⟨putL ρ dst (.d (.slice fs)), σ, ls⟩ (fun fs x' => K (⟨Oper.looksAt ops ⟨dst, .slice t x none (some y) none, ty, pos, af, gd⟩, dst, [], []⟩ :: fs) x')) : Tr P C ops (⟨dst, .slice t x none (some y) none, ty, pos, af, gd⟩ :: rest) ⟨ρ, σ, ls⟩ K := by
  subst hf
  refine tr_two (x := x) (y := y) rfl hx hy hg hN (fun M ι a w _ hr hr2 => ?_) hk
  simp only [RepV, RepD] at hr2
  obtain ⟨cv, h3, h4⟩ := run_slice (P := P) ht (hs.rep hr) hel (lo := none) (hi := some (.int k h)) (l := 0) (h := h) (.inl ⟨rfl, rfl⟩) (.inr ⟨k, rfl⟩) (by omega) h0 h2 w
  exact ⟨cv, by simp only [execOp, Option.map_none, Option.map_some, hr2, h3, Sem.run_bind, Result.andThen_ok, Sem.run_pure], by simp only [RepV]; simpa using h4⟩
theorem t_slice_l {dst : Option Nat} {t : TypeId} {x y : Operand} {ty pos af gd} {vx : V} {es fs : List (List D)} {e n b : Nat} {k : IntKind} {l : Int} (ht : Sli P t e n b) (hx : opd C.G (look ρ) x = some vx) (hs : IsSlice vx es) (hel : ∀ el ∈ es, el.length = n) (hy : opd C.G (look ρ) y = some (.d (.int k l)))
    (h0 : 0 ≤ l) (h2 : l ≤ es.length) (hf : es.drop l.toNat = fs)
    (hg : guardIs ops (look ρ) ⟨dst, .slice t x (some y) none none, ty, pos, af, gd⟩ true) (hN : dstOk ⟨dst, .slice t x (some y) none none, ty, pos, af, gd⟩ C.N = true)
    (hk : Tr P C ops rest ⟨putL ρ dst (.d (.slice fs)), σ, ls⟩ (fun fs x' => K (⟨Oper.looksAt ops ⟨dst, .slice t x (some y) none none, ty, pos, af, gd⟩, dst, [], []⟩ :: fs) x')) : Tr P C ops (⟨dst, .slice t x (some y) none none, ty, pos, af, gd⟩ :: rest) ⟨ρ, σ, ls⟩ K := by
  subst hf
  refine tr_two (x := x) (y := y) rfl hx hy hg hN (fun M ι a w _ hr hr2 => ?_) hk
  simp only [RepV, RepD] at hr2
  obtain ⟨cv, h3, h4⟩ := run_slice (P := P) ht (hs.rep hr) hel (lo := some (.int k l)) (hi := none) (l := l) (h := es.length) (.inr ⟨k, rfl⟩) (.inl ⟨rfl, rfl⟩) h0 h2 (by omega) w
  exact ⟨cv, by simp only [execOp, Option.map_none, Option.map_some, hr2, h3, Sem.run_bind, Result.andThen_ok, Sem.run_pure], by simp only [RepV]; simpa using h4⟩
theorem tr_three {dst : Option Nat} {op : Op} {ty pos af gd} {x y z : Operand} {vx vy vz v : V} (hop : op.operands = #[x, y, z]) (hx : opd C.G (look ρ) x = some vx) (hy : opd C.G (look ρ) y = some vy) (hz : opd C.G (look ρ) z = some vz) (hg : guardIs ops (look ρ) ⟨dst, op, ty, pos, af, gd⟩ true) (hN : dstOk ⟨dst, op, ty, pos, af, gd⟩ C.N = true)
    (hrun : ∀ M ι (a : Act) w, GOk C.G M → RepV M ι vx (a.eval x) → RepV M ι vy (a.eval y) → RepV M ι vz (a.eval z) → ∃ cv, (execOp a.eval ⟨dst, op, ty, pos, af, gd⟩).run P w = .ok (.value cv) w ∧ RepV M ι v cv)
    (h : Tr P C ops rest ⟨putL ρ dst v, σ, ls⟩ (fun fs x' => K (⟨Oper.looksAt ops ⟨dst, op, ty, pos, af, gd⟩, dst, [], []⟩ :: fs) x')) : Tr P C ops (⟨dst, op, ty, pos, af, gd⟩ :: rest) ⟨ρ, σ, ls⟩ K := by
  refine tr_pure hg hN (vals := [vx, vy, vz]) (by simp only [hop]; exact ⟨_, _, rfl, hx, _, _, rfl, hy, _, _, rfl, hz, rfl⟩) (aop_value fun M ι a w hG hvs => ?_) h
  simp only [hop, List.map_cons, List.map_nil, RepVs] at hvs
  obtain ⟨c, r, e1, e2, c2, r2, e3, e4, c3, r3, e6, e7, _⟩ := hvs
  injection e1 with e1 e5
  rw [e3] at e5
  injection e5 with e5 e8
  rw [e6] at e8
  injection e8 with e8 _
  exact hrun M ι a w hG (by rw [e1]; exact e2) (by rw [e5]; exact e4) (by rw [e8]; exact e7)
theorem t_slice_lh {dst : Option Nat} {t : TypeId} {x y z : Operand} {ty pos af gd} {vx : V} {es fs : List (List D)} {e n b : Nat} {k k' : IntKind} {l h : Int} (ht : Sli P t e n b) (hx : opd C.G (look ρ) x = some vx) (hs : IsSlice vx es) (hel : ∀ el ∈ es, el.length = n) (hy : opd C.G (look ρ) y = some (.d (.int k l)))
    (hz : opd C.G (look ρ) z = some (.d (.int k' h))) (h0 : 0 ≤ l) (h1 : l ≤ h) (h2 : h ≤ es.length) (hf : (es.take h.toNat).drop l.toNat = fs)
    (hg : guardIs ops (look ρ) ⟨dst, .slice t x (some y) (some z) none, ty, pos, af, gd⟩ true) (hN : dstOk ⟨dst, .slice t x (some y) (some z) none, ty, pos, af, gd⟩ C.N = true)
    (hk : Tr P C ops rest ⟨putL ρ dst (.d (.slice fs)), σ, ls⟩ (fun fs x' => K (⟨Oper.looksAt ops ⟨dst, .slice t x (some y) (some z) none, ty, pos, af, gd⟩, dst, [], []⟩ :: fs) x')) : Tr P C ops (⟨dst, .slice t x (some y) (some z) none, ty, pos, af, gd⟩ :: rest) ⟨ρ, σ, ls⟩ K := by
  subst hf
  refine tr_three (x := x) (y := y) (z := z) rfl hx hy hz hg hN (fun M ι a w _ hr hr2 hr3 => ?_) hk
  simp only [RepV, RepD] at hr2 hr3
  obtain ⟨cv, h3, h4⟩ := run_slice (P := P) ht (hs.rep hr) hel (lo := some (.int k l)) (hi := some (.int k' h)) (l := l) (h := h) (.inr ⟨k, rfl⟩) (.inr ⟨k', rfl⟩) h0 h1 h2 w
  exact ⟨cv, by simp only [execOp, Option.map_none, Option.map_some, hr2, hr3, h3, Sem.run_bind, Result.andThen_ok, Sem.run_pure], by simp only [RepV]; exact h4⟩
theorem t_slice3 {dst : Option Nat} {t : TypeId} {x y z : Operand} {ty pos af gd} {vx : V} {es fs : List (List D)} {e n b : Nat} {k k' : IntKind} {h : Int} (ht : Sli P t e n b) (hx : opd C.G (look ρ) x = some vx) (hs : IsSlice vx es) (hel : ∀ el ∈ es, el.length = n) (hy : opd C.G (look ρ) y = some (.d (.int k h)))
    (hz : opd C.G (look ρ) z = some (.d (.int k' h))) (h0 : 0 ≤ h) (h2 : h ≤ es.length) (hf : es.take h.toNat = fs)
    (hg : guardIs ops (look ρ) ⟨dst, .slice t x none (some y) (some z), ty, pos, af, gd⟩ true) (hN : dstOk ⟨dst, .slice t x none (some y) (some z), ty, pos, af, gd⟩ C.N = true)
    (hk : Tr P C ops rest ⟨putL ρ dst (.full fs), σ, ls⟩ (fun fs x' => K (⟨Oper.looksAt ops ⟨dst, .slice t x none (some y) (some z), ty, pos, af, gd⟩, dst, [], []⟩ :: fs) x')) : Tr P C ops (⟨dst, .slice t x none (some y) (some z), ty, pos, af, gd⟩ :: rest) ⟨ρ, σ, ls⟩ K := by
  subst hf
  refine tr_three (x := x) (y := y) (z := z) rfl hx hy hz hg hN (fun M ι a w _ hr hr2 hr3 => ?_) hk
  simp only [RepV, RepD] at hr2 hr3
  obtain ⟨cv, h3, h4, h5⟩ := run_slice3 (P := P) (k := k) (k' := k') ht (hs.rep hr) hel h0 h2 w
  exact ⟨cv, by simp only [execOp, Option.map_none, Option.map_some, hr2, hr3, h3, Sem.run_bind, Result.andThen_ok, Sem.run_pure], by simp only [RepV]; exact ⟨h4, h5⟩⟩

/-- A literal of a slice. -/
theorem Elems.rep {M : Mem} {ι : Env} {n : Nat} : ∀ {xs : List V} {es : List (List D)} {vs : List Value}, Elems xs es → (∀ e ∈ es, e.length = n) → RepVs M ι xs vs → vs.length = es.length ∧ RepVs M ι (es.flatten.map V.d) (vs.map fun v => v.cells.toList).flatten ∧ (∀ v ∈ vs, v.cells.size = n) ∧ ∀ u ∈ (vs.map fun v => v.cells.toList).flatten, u.oneCell' = true
  | _, _, vs, .nil, _, h => by simp only [RepVs] at h; subst h; simp [RepVs]
  | _, _, vs, .cons (e := e) h1 h2, hn, h => by
    simp only [RepVs] at h
    obtain ⟨v, r, rfl, h3, h4⟩ := h
    obtain ⟨k1, k2, k3, k4⟩ := Elems.rep h2 (fun x hx => hn x (List.mem_cons_of_mem _ hx)) h4
    obtain ⟨m1, m2⟩ := h1.rep M ι v h3
    have hlen := m1.length
    simp only [Array.length_toList, List.length_map] at hlen
    refine ⟨by simp [k1], ?_, fun u hu => ?_, fun u hu => ?_⟩
    · simp only [List.flatten_cons, List.map_append, List.map_cons]; exact m1.append k2
    · rcases List.mem_cons.1 hu with rfl | hu
      · rw [hlen]; exact hn e List.mem_cons_self
      · exact k3 u hu
    · simp only [List.map_cons, List.flatten_cons, List.mem_append] at hu
      rcases hu with hu | hu
      · exact m2 u hu
      · exact k4 u hu
theorem fill_all (n : Nat) : ∀ (vs : List Value) (k : Nat) (cs : Array Value), (∀ v ∈ vs, v.cells.size = n) → cs.size = (k + vs.length) * n → ∃ cs' : Array Value, Instr.fill (fun i => some (i * n, n)) cs (vs.zipIdx k |>.map fun p => (p.2, p.1)) = some cs' ∧ cs'.toList = cs.toList.take (k * n) ++ (vs.map fun v => v.cells.toList).flatten
  | [], k, cs, _, hsz => by
    refine ⟨cs, rfl, ?_⟩
    simp at hsz
    rw [← hsz, ← Array.length_toList, List.take_length]
    simp
  | v :: vs, k, cs, hn, hsz => by
    have hv := hn v List.mem_cons_self
    simp only [List.length_cons] at hsz
    have hmul : (k + (vs.length + 1)) * n = k * n + n + vs.length * n := by simp [Nat.add_mul]; omega
    have hmul2 : (k + 1) * n = k * n + n := by simp [Nat.add_mul]
    generalize hcs1 : (v.cells.zipIdx.foldl (fun cs (p : Value × Nat) => cs.setIfInBounds (k * n + p.2) p.1) cs) = cs1
    have hcs1' : cs1.toList = AM.spl cs.toList (k * n) v.cells.toList := by
      have := fold_spl (k * n) v.cells.toList 0 cs (by simp; omega)
      rw [Nat.add_zero] at this
      rw [← hcs1, ← this]
      congr 1
      rw [← Array.foldl_toList]
      simp
    have hsz1 : cs1.size = (k + 1 + vs.length) * n := by
      have e : (k + 1 + vs.length) * n = k * n + n + vs.length * n := by simp [Nat.add_mul]
      rw [← Array.length_toList, hcs1']
      simp only [AM.spl, List.length_append, List.length_take, List.length_drop, Array.length_toList]
      omega
    obtain ⟨cs', f1, f2⟩ := fill_all n vs (k + 1) cs1 (fun u hu => hn u (List.mem_cons_of_mem _ hu)) hsz1
    refine ⟨cs', ?_, ?_⟩
    · simp only [List.zipIdx_cons, List.map_cons, Instr.fill]
      have hc1 : ¬ (v.cells.size ≠ n) := by omega
      have hc2 : ¬ (k * n + v.cells.size > cs.size) := by omega
      simp only [hc1, hc2, decide_false, Bool.or_self, Bool.false_eq_true, if_false]
      rw [← f1, ← hcs1]
    · rw [f2, hcs1', hmul2]
      simp only [AM.spl, List.map_cons, List.flatten_cons]
      rw [List.take_append_of_le_length (by simp; omega), List.take_of_length_le (by simp; omega), List.append_assoc]

theorem t_buildSlice {dst : Option Nat} {t len : Nat} {parts : Array (Nat × Operand)} {ty pos af gd} {vals : List V} {es : List (List D)} {e n b : Nat} (ht : Sli P t e n b) (hx : Opds C.G (look ρ) (parts.toList.map (·.2)) vals) (he : Elems vals es) (hn : ∀ x ∈ es, x.length = n)
    (hp : parts.toList.map (·.1) = List.range' 0 len) (hlim : Nat.ble (len * n) 16777216 = true)
    (hg : guardIs ops (look ρ) ⟨dst, .buildSlice t len parts, ty, pos, af, gd⟩ true) (hN : dstOk ⟨dst, .buildSlice t len parts, ty, pos, af, gd⟩ C.N = true)
    (h : Tr P C ops rest ⟨putL ρ dst (.full es), σ, ls⟩ (fun fs x' => K (⟨Oper.looksAt ops ⟨dst, .buildSlice t len parts, ty, pos, af, gd⟩, dst, [], []⟩ :: fs) x')) : Tr P C ops (⟨dst, .buildSlice t len parts, ty, pos, af, gd⟩ :: rest) ⟨ρ, σ, ls⟩ K := by
  refine tr_pure hg hN (vals := vals) (by simpa [Op.operands] using hx) ?_ h
  intro E M ι H w a next Q hi hG _ hvs _ hk
  have hvs' : RepVs M ι vals ((parts.toList.map (·.2)).map a.eval) := by simpa [Op.operands] using hvs
  obtain ⟨k1, k2, k3, k4⟩ := Elems.rep he hn hvs'
  generalize hus : (parts.toList.map (·.2)).map a.eval = us at *
  have hlen : us.length = len := by
    have := congrArg List.length hp
    simp at this
    rw [← hus]; simp [this]
  obtain ⟨inf, z, i1, i2, i3, i4, _⟩ := ht.info
  have hlim' := Nat.le_of_ble_eq_true hlim
  have hpart : (parts.map fun x => match x with | (i, x) => (i, a.eval x)).toList = (us.zipIdx 0).map (fun p => (p.2, p.1)) := by
    have hgen : ∀ (l : List (Nat × Operand)) (k : Nat), l.map (·.1) = List.range' k l.length → (l.map fun x => match x with | (i, x) => (i, a.eval x)) = (((l.map (·.2)).map a.eval).zipIdx k).map (fun p => (p.2, p.1)) := by
      intro l
      induction l with
      | nil => intro k _; rfl
      | cons p l ih =>
        intro k hk'
        simp only [List.map_cons, List.length_cons, List.range'_succ, List.cons.injEq] at hk'
        simp only [List.map_cons, List.zipIdx_cons, List.cons.injEq]
        exact ⟨by rw [← hk'.1], ih (k + 1) hk'.2⟩
    have hpl : parts.toList.length = len := by have := congrArg List.length hp; simpa using this
    rw [Array.toList_map, ← hus]
    exact hgen parts.toList 0 (by rw [hpl]; exact hp)
  have hinit : ∀ (c0 : Array Value), c0.size = len * n → ∃ cs' : Array Value, Instr.fill (fun i => some (i * n, n)) c0 (parts.map fun x => match x with | (i, x) => (i, a.eval x)).toList = some cs' ∧ cs'.toList = (us.map fun v => v.cells.toList).flatten := by
    intro c0 h0
    obtain ⟨cs', f1, f2⟩ := fill_all n us 0 c0 k3 (by rw [h0, hlen]; simp)
    exact ⟨cs', by rw [hpart]; exact f1, by simpa using f2⟩
  have hrun : ∃ cs' : Array Value, (execOp a.eval ⟨dst, .buildSlice t len parts, ty, pos, af, gd⟩).run P w = .ok (.value (.slice (some ⟨w.heap.size, 0, none⟩) len len)) (w.alloc (.cells cs' e)) ∧ cs'.toList = (us.map fun v => v.cells.toList).flatten := by
    have hcond : ¬ (len * n > 2 ^ 24) := by simpa using hlim'
    by_cases h0 : len * n = 0
    · obtain ⟨cs', f1, f2⟩ := hinit #[] (by simp [h0])
      refine ⟨cs', ?_, f2⟩
      have h24 : ¬ (0 > 2 ^ 24) := by omega
      simp only [execOp, Instr.buildSlice, run_underlying ht.und, sizeOf, typeInfo, Sem.run_bind, run_program, Result.andThen_ok, i1, i2, Sem.run_pure, h0, h24, if_true, if_false]
      rw [show (Array.map (fun x => (#[] : Array Value)[x % (#[] : Array Value).size]!) (Array.range 0)) = #[] by simp, f1]
      simp only [newRow, Sem.run_bind, run_newObj, Result.andThen_ok, Sem.run_pure]
      rfl
    · obtain ⟨cs', f1, f2⟩ := hinit ((Array.range (len * n)).map (z.cells[· % z.cells.size]!)) (by simp)
      refine ⟨cs', ?_, f2⟩
      simp only [execOp, Instr.buildSlice, run_underlying ht.und, sizeOf, typeInfo, zeroValue, Sem.run_bind, run_program, Result.andThen_ok, i1, i2, i4, Sem.run_pure, hcond, if_false, h0]
      rw [f1]
      simp only [newRow, Sem.run_bind, run_newObj, Result.andThen_ok, Sem.run_pure]
      rfl
  obtain ⟨cs', hrun, hcs⟩ := hrun
  unfold Oper.wp
  rw [hrun, Oper.upon_value]
  obtain ⟨g1, g2⟩ := hi.alloc_fix e (us.map fun v => v.cells.toList).flatten
  rw [← hcs] at g1 g2
  refine hk _ ι _ _ g1 (fun _ _ => rfl) (by simp only [Array.toArray_toList] at g2; exact g2) ?_
  have hle : es.length = len := by rw [← k1, hlen]
  have hnp := ht.pos
  have hlm : len ≤ maxLen := by
    have : len ≤ len * n := Nat.le_mul_of_pos_right _ hnp
    simp only [maxLen]; omega
  simp only [RepV]
  refine ⟨?_, _, by rw [hle]⟩
  refine RepD.slice_of (sz := n) (ι := ι) hle (Nat.le_refl _) hlm hn rfl (RepVs.grow g1 _ _ k2) (fun j v hj => ?_)
  rw [hcs]
  exact mem_add_hit hj
end
end Go.AM

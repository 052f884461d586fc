/-
  The operations, fourth part: append, calls; and how a state is weakened.
-/
import Derived.Test.YtdbgmmeenljnoaaGreatDoorAmH
set_option linter.unusedVariables false
set_option linter.unusedSimpArgs false
namespace Go.AM
open Go Go.RowKit

/-- A slice's cells, as the machine finds them. -/
theorem slice_cells {P : Program} {M : Mem} {ι : Env} {es : List (List D)} {v : Value} {n : Nat} {tx e' : TypeId} (hk : P.underlying tx = some (.slice e')) (hr : RepD M (.slice es) v) (hel : ∀ e ∈ es, e.length = n) :
    ∃ a c vs, v = .slice a es.length c ∧ es.length ≤ c ∧ es.length ≤ maxLen ∧ RepVs M ι (es.flatten.map V.d) vs ∧ (∀ x ∈ vs, x.oneCell' = true) ∧ vs.length = es.length * n ∧ (∀ ad, a = some ad → es ≠ [] → ad.spot = none ∧ ∀ j x, vs[j]? = some x → M (ad.add j) = some x) ∧ (es ≠ [] → ∃ ad, a = some ad) ∧
      ∀ w : World, (∀ a x, M a = some x → w.cell? a = some x) → Src P n tx v es.length vs w := by
  have hr' := hr
  simp only [RepD] at hr
  obtain ⟨a, c, sz, e1, e2, e3, e4, e5⟩ := hr
  by_cases hes : es = []
  · subst hes
    refine ⟨a, c, [], by simpa using e1, e2, e3, by simp [RepVs], by simp, by simp, fun ad _ h => absurd rfl h, fun h => absurd rfl h, fun w hw => ?_⟩
    cases a with
    | none => rw [e1]; exact Src.ofNil w hk c
    | some ad => rw [e1]; exact Src.ofSlice w hk ad 0 c [] (by simp) (by simp) (by simp)
  · obtain ⟨ad, rfl, hs, hrows⟩ := e5 hes
    obtain ⟨vs, k1, k2, k3⟩ := RepRow.vs (ι := ι) hs (RepRows.unflat hs hrows)
    have hlen : vs.length = es.length * n := by
      have := k2.length
      rw [List.length_map, flat_len hel] at this
      exact this
    exact ⟨some ad, c, vs, e1, e2, e3, k2, k3, hlen, fun ad' h _ => by injection h with h; subst h; exact ⟨hs, k1⟩, fun _ => ⟨ad, rfl⟩, fun w hw => by
      rw [e1]; exact Src.ofSlice w hk ad es.length c vs hlen (fun j x hj => hw _ _ (k1 j x hj)) k3⟩

theorem run_append_zero {P : Program} {t tx ty e : TypeId} {i : TypeInfo} (ht : P.underlying t = some (.slice e)) (hi : P.info? e = some i) {a : Option Addr} {n c : Nat} (hnc : n ≤ c) {x : Value} {news : List Value} {w : World} (hs : Src P i.size tx x 0 news w) :
    (Builtin.append_ #[t, tx] ty #[.slice a n c, x]).run P w = .ok (.slice a n c) w := by
  have hnews : news = [] := List.eq_nil_of_length_eq_zero (by rw [hs.newsLen]; simp)
  subst hnews
  have hc := hs.cells
  rcases hs.kind with ⟨e', hk⟩ | hk <;> cases a <;> simp [Builtin.append_, run_underlying ht, run_underlying hk, sizeOf, typeInfo, hi, hs.len, hnc, hc, storeCells]

/-- A new row that holds the old elements and the new ones. -/
theorem grow_run {P : Program} {M : Mem} {ι : Env} {E : Entry} {H : Sto} {w : World} (hinv : Inv E M ι H w) {t ty e n b : Nat} (ht : Sli P t e n b) {es ys : List (List D)} {v y : Value} {c : Nat} {a : Option Addr} (hv : v = .slice a es.length c) (hr : RepD M (.slice es) v) (hy : RepD M (.slice ys) y) (hes : ∀ x ∈ es, x.length = n) (hys : ∀ x ∈ ys, x.length = n)
    (hg : c < es.length + ys.length) (hb : (es.length + ys.length) * b ≤ 140737488355328) (hb0 : 0 < b) :
    ∃ (cells rest : List Value) (cap : Nat), (Builtin.append_ #[t, t] ty #[v, y]).run P w = .ok (.slice (some ⟨w.heap.size, 0, none⟩) (es.length + ys.length) cap) (w.drew.alloc (.cells (cells ++ rest).toArray e)) ∧ cells.length = (es.length + ys.length) * n ∧ (cells ++ rest).length = cap * n ∧ es.length + ys.length ≤ cap ∧
      RepVs M ι ((es ++ ys).flatten.map V.d) cells ∧ es.length + ys.length ≤ maxLen := by
  obtain ⟨i, z, i1, i2, i3, i4, i5⟩ := ht.info
  subst i2
  subst i3
  obtain ⟨a1, c1, vs, p1, p2, p3, p4, p5, p6, p7, p8, p9⟩ := slice_cells (P := P) (ι := ι) ht.und hr hes
  obtain ⟨a2, c2, us, q1, q2, q3, q4, q5, q6, q7, q8, q9⟩ := slice_cells (P := P) (ι := ι) ht.und hy hys
  rw [hv] at p1
  injection p1 with p1 _ p1'
  subst p1; subst p1'
  have hsrc := p9 w (fun a x h => hinv.mem a x h)
  have hsrc2 := q9 w (fun a x h => hinv.mem a x h)
  have hlen : es.length + ys.length ≤ 140737488355328 := Nat.le_trans (Nat.le_mul_of_pos_right _ hb0) hb
  have hrun := run_append_grow_src w t t ty e i z ht.und i1 i4 a es.length c vs (by rw [← hv]; exact hsrc.cellsD) y ys.length us hsrc2 hg (by omega) (growslice_fits hg hb)
  refine ⟨vs ++ us, (Builtin.zeroCells z.cells (grownCap w (es.length + ys.length) c e - (es.length + ys.length))).toList, grownCap w (es.length + ys.length) c e, ?_, ?_, ?_, grownCap_ge _ _ _ _, ?_, by simp only [maxLen]; omega⟩
  · rw [hv, hrun]
    congr 3
    apply Array.ext'
    simp
  · rw [List.length_append, p6, q6, Nat.add_mul]
  · have hge := grownCap_ge w (es.length + ys.length) c e
    have hz : (Builtin.zeroCells z.cells (grownCap w (es.length + ys.length) c e - (es.length + ys.length))).toList.length = (grownCap w (es.length + ys.length) c e - (es.length + ys.length)) * i.size :=
      (Array.length_toList (xs := Builtin.zeroCells z.cells _)).trans ((size_zeroCells _ _).trans (by rw [i5]))
    rw [List.length_append, List.length_append, p6, q6, hz]
    rw [← Nat.add_mul, ← Nat.add_mul]
    congr 1
    omega
  · rw [List.flatten_append, List.map_append]
    exact p4.append q4

section
variable {P : Program} {C : Ctx} {ops : Array Oper} {rest : List Oper} {ρ : List (Nat × V)} {σ : List (Nat × Option O)} {ls : List Nat} {K : List FP → A → Prop}

theorem exec_append {dst : Option Nat} {t : TypeId} {x y : Operand} {ty pos af gd} {a : Act} {w w' : World} {cv : Value} (h : (Builtin.append_ #[t, t] ty #[a.eval x, a.eval y]).run P w = .ok cv w') :
    (execOp a.eval ⟨dst, .call { callee := .builtin .append, args := #[x, y], argTypes := #[t, t] }, ty, pos, af, gd⟩).run P w = .ok (.value cv) w' := by
  have e1 : (#[x, y] : Array Operand).map a.eval = #[a.eval x, a.eval y] := by simp
  simp only [execOp, resolve, e1, Sem.run_bind, Sem.run_pure, Result.andThen_ok, invoke, builtin, h]

/-- append to a slice that has no room left. -/
theorem t_append {d : Nat} {c : Call} {t : TypeId} {x y : Operand} {ty pos af gd} {vx vy : V} {es ys zs : List (List D)} {e n b : Nat} (hc : c = { callee := .builtin .append, args := #[x, y], argTypes := #[t, t] }) (ht : Sli P t e n b) (hx : opd C.G (look ρ) x = some vx) (hxf : VLe vx (.full es)) (hy : opd C.G (look ρ) y = some vy) (hys : IsSlice vy ys)
    (hes : ∀ x ∈ es, x.length = n) (hyl : ∀ x ∈ ys, x.length = n) (hb : (es.length + ys.length) * b ≤ 140737488355328) (hb0 : Nat.blt 0 b = true) (hz : es ++ ys = zs)
    (hg : guardIs ops (look ρ) ⟨some d, .call c, ty, pos, af, gd⟩ true) (hN : dstOk ⟨some d, .call c, ty, pos, af, gd⟩ C.N = true) (hl : memB d ls = false)
    (h : Tr P C ops rest ⟨(d, .own zs d) :: ρ, (d, some (.row zs.length n e)) :: σ, d :: ls⟩ (fun fs x' => K (⟨Oper.looksAt ops ⟨some d, .call c, ty, pos, af, gd⟩, some d, [], [d]⟩ :: fs) x')) : Tr P C ops (⟨some d, .call c, ty, pos, af, gd⟩ :: rest) ⟨ρ, σ, ls⟩ K := by
  subst hc
  subst hz
  have hb0' : 0 < b := by simpa [Nat.blt_eq] using hb0
  refine tr_op hg hN (vals := [vx, vy]) (fp := []) (wr := [(d, some (.row (es ++ ys).length n e))]) (v := .own (es ++ ys) d) ⟨_, _, rfl, hx, _, _, rfl, hy, rfl⟩ ?_ (fun _ _ h => by cases h) (fun l hl' _ => by simp at hl'; subst hl'; exact not_mem_of hl) h
  intro E M ι H w a next Q hi hG _ hvs hfr hk
  have hfr' : ι d = none := hfr d (by simp) (by simp)
  simp only [Op.operands, Call.operands, List.map_cons, List.map_nil, RepVs] at hvs
  obtain ⟨v1, r1, e1, e2, v2, r2, e3, e4, _⟩ := hvs
  injection e1 with e1 e5
  rw [e3] at e5; injection e5 with e5 _
  have hev1 : a.eval x = v1 := e1
  have hev2 : a.eval y = v2 := e5
  have hful := hxf M ι v1 e2
  simp only [RepV] at hful
  obtain ⟨hd1, ax, hax⟩ := hful
  have hd2 := hys.rep e4
  obtain ⟨i, z, i1, i2, i3, i4, i5⟩ := ht.info
  by_cases h0 : ys = []
  · subst h0
    obtain ⟨a2, c2, us, q1, q2, q3, q4, q5, q6, q7, q8, q9⟩ := slice_cells (P := P) (ι := ι) (n := n) ht.und hd2 hyl
    have hsrc := q9 w (fun a x h => hi.mem a x h)
    rw [← i2] at hsrc
    have hrun := exec_append (dst := some d) (pos := pos) (af := af) (gd := gd) (a := a) (x := x) (y := y) (ty := ty) (by rw [hev1, hev2, hax]; exact run_append_zero (ty := ty) ht.und i1 (Nat.le_refl _) hsrc)
    unfold Oper.wp
    rw [hrun, Oper.upon_value]
    obtain ⟨g1, g2⟩ := hi.virtual hfr' es.length n e
    simp only [List.append_nil] at hk ⊢
    refine hk M _ w _ g1 (fun l hl' => Env.set_other _ _ (by simpa using hl')) (by rw [Sto.upd_one]; exact g2) ?_
    simp only [RepV]
    refine ⟨by rw [← hax]; exact hd1, _, Env.set_same _ _ _, rfl, Nat.le_refl _, fun _ => ⟨ax, rfl⟩⟩
  · have hpos : 0 < ys.length := List.length_pos_iff.2 h0
    obtain ⟨cells, rst, cap, hrun, k1, k2, k3, k4, k5⟩ := grow_run (ty := ty) hi ht hax hd1 hd2 hes hyl (by omega) hb hb0'
    have hrun' := exec_append (dst := some d) (pos := pos) (af := af) (gd := gd) (a := a) (x := x) (y := y) (ty := ty) (by rw [hev1, hev2]; exact hrun)
    unfold Oper.wp
    rw [hrun', Oper.upon_value]
    have hi2 : Inv E M ι H w.drew := hi.of_heap rfl rfl rfl rfl
    obtain ⟨g1, g2⟩ := hi2.alloc_row e cells rst n (es.length + ys.length) cap k1 k2 k3 hfr'
    refine hk _ _ _ _ g1 (fun l hl' => Env.set_other _ _ (by simpa using hl')) (by rw [Sto.upd_one, List.length_append]; exact g2) ?_
    simp only [RepV]
    refine ⟨RepD.slice_of (sz := n) (List.length_append) k3 k5 (fun x hx => (List.mem_append.1 hx).elim (hes x) (hyl x)) rfl (RepVs.grow g1 _ _ k4) (fun j v hj => mem_add_hit hj), _, Env.set_same _ _ _, rfl, by rw [List.length_append]; exact Nat.le_refl _, fun _ => by rw [List.length_append]; rfl⟩

/-- append to a row of the call's own. -/
theorem t_append_own {d : Nat} {c : Call} {t : TypeId} {x y : Operand} {ty pos af gd} {l : Nat} {vy : V} {es ys zs : List (List D)} {e n b : Nat} (hc : c = { callee := .builtin .append, args := #[x, y], argTypes := #[t, t] }) (ht : Sli P t e n b) (hx : opd C.G (look ρ) x = some (.own es l)) (hy : opd C.G (look ρ) y = some vy) (hys : IsSlice vy ys)
    (ho : lookO σ l = some (.row es.length n e)) (hes : ∀ x ∈ es, x.length = n) (hyl : ∀ x ∈ ys, x.length = n) (hb : (es.length + ys.length) * b ≤ 140737488355328) (hb0 : Nat.blt 0 b = true) (hz : es ++ ys = zs)
    (hg : guardIs ops (look ρ) ⟨some d, .call c, ty, pos, af, gd⟩ true) (hN : dstOk ⟨some d, .call c, ty, pos, af, gd⟩ C.N = true)
    (h : Tr P C ops rest ⟨(d, .own zs l) :: ρ, (l, some (.row zs.length n e)) :: σ, l :: ls⟩ (fun fs x' => K (⟨Oper.looksAt ops ⟨some d, .call c, ty, pos, af, gd⟩, some d, [l], [l]⟩ :: fs) x')) : Tr P C ops (⟨some d, .call c, ty, pos, af, gd⟩ :: rest) ⟨ρ, σ, ls⟩ K := by
  subst hc
  subst hz
  have hb0' : 0 < b := by simpa [Nat.blt_eq] using hb0
  refine tr_op hg hN (vals := [.own es l, vy]) (fp := [(l, .row es.length n e)]) (wr := [(l, some (.row (es ++ ys).length n e))]) (v := .own (es ++ ys) l) ⟨_, _, rfl, hx, _, _, rfl, hy, rfl⟩ ?_
    (fun l' o' hm => by simp at hm; obtain ⟨rfl, rfl⟩ := hm; exact ho) (fun l' h1 h2 => by simp at h1 h2; exact absurd h1 h2) h
  intro E M ι H w a next Q hi hG hfp hvs _ hk
  have hH := hfp l (.row es.length n e) (by simp)
  simp only [Op.operands, Call.operands, List.map_cons, List.map_nil, RepVs] at hvs
  obtain ⟨v1, r1, e1, e2, v2, r2, e3, e4, _⟩ := hvs
  injection e1 with e1 e5
  rw [e3] at e5; injection e5 with e5 _
  have hev1 : a.eval x = v1 := e1
  have hev2 : a.eval y = v2 := e5
  have hown := e2
  simp only [RepV] at e2
  obtain ⟨hd1, bd, b1, b2, b3, b4⟩ := e2
  obtain ⟨bd', o1, o2, o3, o4, o5⟩ := hi.obj l _ hH
  rw [b1] at o1; injection o1 with o1; subst o1
  have hmt := b4 o3
  have hd2 := hys.rep e4
  obtain ⟨i, z, i1, i2, i3, i4, i5⟩ := ht.info
  -- the value's form
  obtain ⟨ax, cx, hax, hcx⟩ : ∃ ax cx, v1 = .slice ax es.length cx ∧ es.length ≤ cx := by
    cases hbk : bd.blk with
    | none => rw [hbk] at hmt; obtain ⟨ax, hax⟩ := hmt; exact ⟨ax, _, hax, Nat.le_refl _⟩
    | some b => rw [hbk] at hmt; exact ⟨_, _, hmt, o4⟩
  by_cases h0 : ys = []
  · subst h0
    obtain ⟨a2, c2, us, q1, q2, q3, q4, q5, q6, q7, q8, q9⟩ := slice_cells (P := P) (ι := ι) (n := n) ht.und hd2 hyl
    have hsrc := q9 w (fun a x h => hi.mem a x h)
    rw [← i2] at hsrc
    have hrun := exec_append (dst := some d) (pos := pos) (af := af) (gd := gd) (a := a) (x := x) (y := y) (ty := ty) (by rw [hev1, hev2, hax]; exact run_append_zero (ty := ty) ht.und i1 hcx hsrc)
    unfold Oper.wp
    rw [hrun, Oper.upon_value]
    simp only [List.append_nil] at hk ⊢
    have hH' : H.upd [(l, some (.row es.length n e))] = H := funext fun k => by
      rw [Sto.upd_one]; simp only [Sto.set]; split
      · rename_i e; subst e; exact hH.symm
      · rfl
    refine hk M ι w _ (Grow.refl _ _) (fun _ _ => rfl) (by rw [hH']; exact hi) (by rw [← hax]; exact hown)
  · have hpos : 0 < ys.length := List.length_pos_iff.2 h0
    by_cases hroom : es.length + ys.length ≤ cx
    · -- there is room: in its place
      cases hbk : bd.blk with
      | none =>
        rw [hbk] at hmt
        obtain ⟨ax', hax'⟩ := hmt
        rw [hax] at hax'; injection hax' with _ _ hcx'
        omega
      | some blk =>
        rw [hbk] at hmt
        simp only at hmt
        rw [hax] at hmt; injection hmt with m1 _ m2
        subst m1; subst m2
        obtain ⟨cs, c1, c2⟩ := o5 blk hbk
        obtain ⟨a2, cc2, us, q1, q2, q3, q4, q5, q6, q7, q8, q9⟩ := slice_cells (P := P) (ι := ι) (n := n) ht.und hd2 hyl
        obtain ⟨a1, cc1, vs, p1, p2, p3, p4, p5, p6, p7, p8, p9⟩ := slice_cells (P := P) (ι := ι) (n := n) ht.und hd1 hes
        obtain ⟨ad2, rfl⟩ := q8 h0
        have hmul : (es.length + ys.length) * n = es.length * n + ys.length * n := Nat.add_mul ..
        have hcap : (es.length + ys.length) * n ≤ bd.cap * n := Nat.mul_le_mul_right _ hroom
        have hrun0 := run_append_room (P := P) w t ty e i ht.und i1 blk es.length bd.cap cs c1 ad2 ys.length cc2 us (by rw [i2]; exact q6) (fun j x hj => hi.mem _ _ ((q7 ad2 rfl h0).2 j x hj)) q5 hroom (by rw [i2, q6, c2]; omega)
        rw [i2] at hrun0
        have hrun := exec_append (dst := some d) (pos := pos) (af := af) (gd := gd) (a := a) (x := x) (y := y) (ty := ty) (by rw [hev1, hev2, hax, q1]; exact hrun0)
        unfold Oper.wp
        rw [hrun, Oper.upon_value]
        have hlist : (cs.toList.take (es.length * n) ++ us ++ cs.toList.drop (es.length * n + us.length)).length = cs.size := by
          simp only [List.length_append, List.length_take, List.length_drop, Array.length_toList]
          omega
        obtain ⟨g1, g2⟩ := hi.append_in (k := ys.length) (news := us) (cs' := (cs.toList.take (es.length * n) ++ us ++ cs.toList.drop (es.length * n + us.length)).toArray) hH b1 hbk q6 hroom hpos c1 (setRow_heap w blk _ _ _ _ c1) (by rw [List.size_toArray]; exact hlist)
          (fun j hj => by
            rw [List.getElem?_toArray]
            rw [List.append_assoc, List.getElem?_append_left (by simp; omega), List.getElem?_take, if_pos hj]
            simp)
          (fun j hj => by
            rw [List.getElem?_toArray]
            rw [List.append_assoc, List.getElem?_append_right (by simp; omega)]
            have : es.length * n + j - (cs.toList.take (es.length * n)).length = j := by simp; omega
            rw [this, List.getElem?_append_left (by omega)])
          (fun k hk' => setRow_other w blk k _ hk') (by simp) rfl rfl rfl
        refine hk _ _ _ _ g1 (fun l' hl' => Env.set_other _ _ (by simpa using hl')) (by rw [Sto.upd_one, List.length_append]; exact g2) ?_
        simp only [RepV]
        refine ⟨RepD.slice_of (sz := n) (vs := vs ++ us) (List.length_append) hroom (by
            have hle : es.length + ys.length ≤ 140737488355328 := Nat.le_trans (Nat.le_mul_of_pos_right _ hb0') hb
            simp only [maxLen]; omega) (fun x hx => (List.mem_append.1 hx).elim (hes x) (hyl x)) rfl
          (by rw [List.flatten_append, List.map_append]; exact (RepVs.grow g1 _ _ p4).append (RepVs.grow g1 _ _ q4)) (fun j v hj => ?_), _, Env.set_same _ _ _, rfl, by rw [List.length_append]; exact Nat.le_refl _, fun _ => by simp only [List.length_append]⟩
        rw [hax] at p1; injection p1 with p1 _ _
        by_cases hj1 : j < vs.length
        · rw [List.getElem?_append_left hj1] at hj
          have hne : es ≠ [] := fun e => by
            have : es.length = 0 := by rw [e]; rfl
            rw [this, Nat.zero_mul] at p6; omega
          exact g1.mem _ _ ((p7 _ p1.symm hne).2 j v hj)
        · rw [List.getElem?_append_right (by omega)] at hj
          have := Mem.add_in (M := M) (b := blk) (lo := es.length * n) hj
          have e6 : (⟨blk, 0, none⟩ : Addr).add j = ⟨blk, es.length * n + (j - vs.length), none⟩ := by
            simp only [Addr.add]
            rw [p6] at hj1 ⊢
            split
            · rename_i hj0
              have : es.length * n = 0 := by omega
              simp [hj0, this]
            · congr 1; omega
          rw [e6]; exact this
    · -- there is none: a new row, at the same label
      obtain ⟨cells, rst, cap, hrun, k1, k2, k3, k4, k5⟩ := grow_run (ty := ty) hi ht hax hd1 hd2 hes hyl (by omega) hb hb0'
      have hrun' := exec_append (dst := some d) (pos := pos) (af := af) (gd := gd) (a := a) (x := x) (y := y) (ty := ty) (by rw [hev1, hev2]; exact hrun)
      unfold Oper.wp
      rw [hrun', Oper.upon_value]
      have hi2 : Inv E M ι H w.drew := hi.of_heap rfl rfl rfl rfl
      obtain ⟨g1, g2⟩ := hi2.alloc_row_over e cells rst n (es.length + ys.length) es.length cap k1 k2 k3 hH b1 (by omega)
      refine hk _ _ _ _ g1 (fun l hl' => Env.set_other _ _ (by simpa using hl')) (by rw [Sto.upd_one, List.length_append]; exact g2) ?_
      simp only [RepV]
      refine ⟨RepD.slice_of (sz := n) (List.length_append) k3 k5 (fun x hx => (List.mem_append.1 hx).elim (hes x) (hyl x)) rfl (RepVs.grow g1 _ _ k4) (fun j v hj => mem_add_hit hj), _, Env.set_same _ _ _, rfl, by rw [List.length_append]; exact Nat.le_refl _, fun _ => by rw [List.length_append]; rfl⟩

/-! ### Calls -/
theorem AOp.less {G : Gl} {o : Oper} {vals vals' : List V} {fp wr v v'} (h : AOp P G o vals' fp wr v) (hv : VLes vals vals') (hr : VLe v v') : AOp P G o vals fp wr v' := by
  intro E M ι H w a next Q hi hG hfp hvs hfr hk
  exact h E M ι H w a next Q hi hG hfp (hv.rep hvs) hfr (fun M' ι' w' cv k1 k2 k3 k4 => hk M' ι' w' cv k1 k2 k3 (hr _ _ _ k4))

/-- A call that is handed no object. -/
theorem t_call {dst : Option Nat} {c : Call} {fo : Operand} {as : Array Operand} {ts : Array TypeId} {ty pos af gd} {f : FuncId} {fv : V} {caps vals args : List V} {ret : V} (hc : c = { callee := .value fo, args := as, argTypes := ts }) (hf : opd C.G (look ρ) fo = some fv) (hx : fv = .clo f caps ∨ (fv = .d (.fn f) ∧ caps = []))
    (ha : Opds C.G (look ρ) as.toList vals) (hle : VLes vals args) (hev : Ev P C.G f (args ++ caps) [] ret [])
    (hg : guardIs ops (look ρ) ⟨dst, .call c, ty, pos, af, gd⟩ true) (hN : dstOk ⟨dst, .call c, ty, pos, af, gd⟩ C.N = true)
    (h : Tr P C ops rest ⟨putL ρ dst ret, σ, ls⟩ (fun fs x' => K (⟨Oper.looksAt ops ⟨dst, .call c, ty, pos, af, gd⟩, dst, [], []⟩ :: fs) x')) : Tr P C ops (⟨dst, .call c, ty, pos, af, gd⟩ :: rest) ⟨ρ, σ, ls⟩ K := by
  subst hc
  refine tr_pure hg hN (vals := fv :: vals) (show Opds C.G (look ρ) (#[fo] ++ as).toList (fv :: vals) from by rw [Array.toList_append]; exact ⟨_, _, rfl, hf, ha⟩) ?_ h
  exact AOp.less (aop_call (o := ⟨dst, .call { callee := .value fo, args := as, argTypes := ts }, ty, pos, af, gd⟩) rfl rfl hx hev) (.cons VLe.rfl hle) VLe.rfl

/-- A call that is handed objects. -/
theorem t_callσ {dst : Option Nat} {c : Call} {fo : Operand} {as : Array Operand} {ts : Array TypeId} {ty pos af gd} {f : FuncId} {fv : V} {caps vals args : List V} {ret : V} {τ τ' : List (Nat × O)} (hc : c = { callee := .value fo, args := as, argTypes := ts }) (hf : opd C.G (look ρ) fo = some fv) (hx : fv = .clo f caps ∨ (fv = .d (.fn f) ∧ caps = []))
    (ha : Opds C.G (look ρ) as.toList vals) (hle : VLes vals args) (hev : Ev P C.G f (args ++ caps) τ ret τ') (hσ : ∀ l o', (l, o') ∈ τ → lookO σ l = some o') (hfr : ∀ l, l ∈ (wrOf τ τ').map (·.1) → l ∉ τ.map (·.1) → l ∉ ls)
    (hg : guardIs ops (look ρ) ⟨dst, .call c, ty, pos, af, gd⟩ true) (hN : dstOk ⟨dst, .call c, ty, pos, af, gd⟩ C.N = true)
    (h : Tr P C ops rest ⟨putL ρ dst ret, wrOf τ τ' ++ σ, (wrOf τ τ').map (·.1) ++ ls⟩ (fun fs x' => K (⟨Oper.looksAt ops ⟨dst, .call c, ty, pos, af, gd⟩, dst, τ.map (·.1), (wrOf τ τ').map (·.1)⟩ :: fs) x')) : Tr P C ops (⟨dst, .call c, ty, pos, af, gd⟩ :: rest) ⟨ρ, σ, ls⟩ K := by
  subst hc
  refine tr_op hg hN (vals := fv :: vals) (show Opds C.G (look ρ) (#[fo] ++ as).toList (fv :: vals) from by rw [Array.toList_append]; exact ⟨_, _, rfl, hf, ha⟩) ?_ hσ hfr h
  exact AOp.less (aop_call (o := ⟨dst, .call { callee := .value fo, args := as, argTypes := ts }, ty, pos, af, gd⟩) rfl rfl hx hev) (.cons VLe.rfl hle) VLe.rfl

/-! ### Weaker states -/
/-- Each entry of the second list is found in the first one, and says less. -/
def RhoLe (ρ : List (Nat × V)) : List (Nat × V) → Prop
  | [] => True
  | (t, v) :: r => (∃ u, look ρ t = some u ∧ VLe u v) ∧ RhoLe ρ r
theorem RhoLe.at {ρ : List (Nat × V)} : ∀ {ρ' : List (Nat × V)}, RhoLe ρ ρ' → ∀ t v, look ρ' t = some v → ∃ u, look ρ t = some u ∧ VLe u v
  | [], _, t, v, h => by simp [look] at h
  | (k, x) :: r, hr, t, v, h => by
    rw [look_cons] at h
    split at h
    · rename_i e; injection h with h; subst e; subst h; exact hr.1
    · exact RhoLe.at hr.2 t v h
def SigLe (σ : List (Nat × Option O)) : List (Nat × Option O) → Prop
  | [] => True
  | (l, some o) :: r => (∃ u, lookO σ l = some u ∧ OLe u o) ∧ SigLe σ r
  | (_, none) :: r => SigLe σ r
theorem SigLe.at {σ : List (Nat × Option O)} : ∀ {σ' : List (Nat × Option O)}, SigLe σ σ' → ∀ l o, lookO σ' l = some o → ∃ u, lookO σ l = some u ∧ OLe u o
  | [], _, l, o, h => by simp [lookO, look] at h
  | (k, some x) :: r, hr, l, o, h => by
    simp only [lookO] at h
    rw [look_cons] at h
    by_cases e : k = l
    · subst e
      simp at h; subst h
      exact hr.1
    · rw [if_neg e] at h
      exact SigLe.at (σ' := r) hr.2 l o h
  | (k, none) :: r, hr, l, o, h => by
    simp only [lookO] at h
    rw [look_cons] at h
    by_cases e : k = l
    · subst e; simp at h
    · rw [if_neg e] at h
      exact SigLe.at (σ' := r) hr l o h
def rhoOn (S : List Nat) : List (Nat × V) → Bool
  | [] => true
  | (_, v) :: r => v.on S && rhoOn S r
theorem rhoOn_at {S : List Nat} : ∀ {ρ : List (Nat × V)}, rhoOn S ρ = true → ∀ t v, look ρ t = some v → v.on S = true
  | [], _, t, v, h => by simp [look] at h
  | (k, x) :: r, hr, t, v, h => by
    simp only [rhoOn, Bool.and_eq_true] at hr
    rw [look_cons] at h
    split at h
    · injection h with h; subst h; exact hr.1
    · exact rhoOn_at hr.2 t v h
def sigOn (S : List Nat) : List (Nat × Option O) → Bool
  | [] => true
  | (l, some o) :: r => S.contains l && o.on S && sigOn S r
  | (_, none) :: r => sigOn S r
theorem sigOn_at {S : List Nat} : ∀ {σ : List (Nat × Option O)}, sigOn S σ = true → ∀ l o, lookO σ l = some o → S.contains l = true ∧ o.on S = true
  | [], _, l, o, h => by simp [lookO, look] at h
  | (k, some x) :: r, hr, l, o, h => by
    simp only [sigOn, Bool.and_eq_true] at hr
    simp only [lookO] at h
    rw [look_cons] at h
    by_cases e : k = l
    · subst e; simp at h; subst h; exact hr.1
    · rw [if_neg e] at h; exact sigOn_at (σ := r) hr.2 l o h
  | (k, none) :: r, hr, l, o, h => by
    simp only [sigOn] at hr
    simp only [lookO] at h
    rw [look_cons] at h
    by_cases e : k = l
    · subst e; simp at h
    · rw [if_neg e] at h; exact sigOn_at (σ := r) hr l o h
def subB (xs ys : List Nat) : Bool := xs.all fun x => memB x ys
theorem subB_of {xs ys : List Nat} (h : subB xs ys = true) : ∀ x ∈ xs, x ∈ ys := fun x hx => by
  simp only [subB, List.all_eq_true] at h
  have := h x hx
  apply Classical.byContradiction
  intro hn
  have : ∀ {l : Nat} {zs : List Nat}, l ∉ zs → memB l zs = false := by
    intro l zs
    induction zs with
    | nil => intro _; rfl
    | cons k r ih =>
      intro hz
      simp only [List.mem_cons, not_or] at hz
      simp only [memB, ih hz.2, Bool.or_false]
      cases hb : Nat.beq k l with
      | false => rfl
      | true => exact absurd (Nat.eq_of_beq_eq_true hb).symm hz.1
  rw [this hn] at *
  simp_all

/-- What is kept of a state: some temporaries, some objects, some labels. -/
theorem weak_of {x y : A} (h1 : RhoLe x.ρ y.ρ) (h2 : SigLe x.σ y.σ) (h3 : rhoOn y.ls y.ρ = true) (h4 : sigOn y.ls y.σ = true) (h5 : subB C.keep y.ls = true) : Weak C x y := by
  intro M ι a w hs
  refine ⟨M, fun l => if y.ls.contains l then ι l else none, ?_⟩
  have hι : ∀ l, y.ls.contains l = true → (fun l => if y.ls.contains l then ι l else none) l = ι l := fun l hl => by simp only [hl, if_true]
  refine ⟨(hs.inv.ole (H' := lookO y.σ) (fun l o ho => SigLe.at h2 l o ho)).env hι (fun l o ho => sigOn_at h4 l o ho), hs.g, fun t v hv => ?_, fun l hl => ?_, hs.sz, hs.df, fun l hl bd hb => ?_⟩
  · obtain ⟨u, hu, hle⟩ := RhoLe.at h1 t v hv
    exact RepV.on hι _ _ (rhoOn_at h3 t v hv) (hle _ _ _ (hs.tm t u hu))
  · by_cases hc : y.ls.contains l = true
    · simpa using hc
    · simp only [hc] at hl; exact absurd rfl hl
  · have := subB_of h5 l hl
    have hc : y.ls.contains l = true := by simpa using this
    simp only [hc, if_true]
    exact hs.kept l hl bd hb

/-- A slice without room, in a cell, is given a label. -/
theorem weak_row {l j L sz : Nat} {vs ws : List V} {u : V} {es : List (List D)} {t e : TypeId} (hL : memB L ls = false) (ho : lookO σ l = some (.cells vs t)) (hj : vs[j]? = some u) (hu : VLe u (.full es)) (hv : vs.set j (.own es L) = ws) :
    Weak C ⟨ρ, σ, ls⟩ ⟨ρ, (l, some (.cells ws t)) :: (L, some (.row es.length sz e)) :: σ, L :: ls⟩ := by
  subst hv
  intro M ι a w hs
  have hfr : ι L = none := by
    apply Classical.byContradiction
    intro hn
    exact not_mem_of hL (hs.lab L hn)
  obtain ⟨g1, g2⟩ := hs.inv.virtual hfr es.length sz e
  have hlL : l ≠ L := fun e => by
    subst e
    obtain ⟨bd, h1, _⟩ := hs.inv.obj l _ ho
    rw [hfr] at h1; cases h1
  obtain ⟨bd, b, cs, c1, c2, c3, c4, c5, c6, c7⟩ := hs.inv.cells ho
  obtain ⟨cu, k1, k2⟩ := c5.get hj
  have k3 := hu _ _ _ k2
  simp only [RepV] at k3
  obtain ⟨k3, ax, k4⟩ := k3
  have hown : RepV M (ι.set L ⟨.row, none, es.length, es.length⟩) (.own es L) cu := by
    simp only [RepV]
    exact ⟨RepD.grow g1.mem _ _ k3, _, Env.set_same _ _ _, rfl, Nat.le_refl _, fun _ => ⟨ax, k4⟩⟩
  have hrep : RepVs M (ι.set L ⟨.row, none, es.length, es.length⟩) (vs.set j (.own es L)) cs := by
    have := (RepVs.grow g1 _ _ c5).set (i := j) hown
    have e : cs.set j cu = cs := by
      obtain ⟨hlt, hx⟩ := List.getElem?_eq_some_iff.1 k1
      rw [← hx]; exact List.set_getElem_self hlt
    rwa [e] at this
  have ho' : Sto.set (lookO σ) L (some (.row es.length sz e)) l = some (.cells vs t) := by rw [Sto.set_other _ _ hlL]; exact ho
  have hw := g2.write (vs' := vs.set j (.own es L)) ho' (by rw [Env.set_other _ _ hlL]; exact c1) c3 hrep c6 c4 (fun _ _ => rfl) rfl rfl rfl rfl
  have hH : lookO ((l, some (.cells (vs.set j (.own es L)) t)) :: (L, some (.row es.length sz e)) :: σ) = Sto.set (Sto.set (lookO σ) L (some (.row es.length sz e))) l (some (.cells (vs.set j (.own es L)) t)) := by
    have := lookO_upd σ [(l, some (.cells (vs.set j (.own es L)) t)), (L, some (.row es.length sz e))]
    exact this
  refine ⟨M, ι.set L ⟨.row, none, es.length, es.length⟩, ⟨by rw [hH]; exact hw, hs.g, fun t v hv => RepV.grow g1 _ _ (hs.tm t v hv), fun k hk => ?_, hs.sz, hs.df, fun k hk bd hb => ?_⟩⟩
  · by_cases e : k = L
    · subst e; simp
    · rw [Env.set_other _ _ e] at hk
      exact List.mem_cons_of_mem _ (hs.lab k hk)
  · obtain ⟨bd', q1, q2⟩ := hs.kept k hk bd hb
    have e : k ≠ L := fun e => by subst e; rw [hfr] at q1; cases q1
    exact ⟨bd', by rw [Env.set_other _ _ e]; exact q1, q2⟩
/-- The same of a temporary. -/
theorem weak_rowt {t L sz : Nat} {u : V} {es : List (List D)} {e : TypeId} (hL : memB L ls = false) (ht : look ρ t = some u) (hu : VLe u (.full es)) :
    Weak C ⟨ρ, σ, ls⟩ ⟨(t, .own es L) :: ρ, (L, some (.row es.length sz e)) :: σ, L :: ls⟩ := by
  intro M ι a w hs
  have hfr : ι L = none := by
    apply Classical.byContradiction
    intro hn
    exact not_mem_of hL (hs.lab L hn)
  obtain ⟨g1, g2⟩ := hs.inv.virtual hfr es.length sz e
  have k3 := hu _ _ _ (hs.tm t u ht)
  simp only [RepV] at k3
  obtain ⟨k3, ax, k4⟩ := k3
  have hH : lookO ((L, some (.row es.length sz e)) :: σ) = Sto.set (lookO σ) L (some (.row es.length sz e)) := lookO_upd σ [(L, some (.row es.length sz e))]
  refine ⟨M, ι.set L ⟨.row, none, es.length, es.length⟩, ⟨by rw [hH]; exact g2, hs.g, fun t' v hv => ?_, fun k hk => ?_, hs.sz, hs.df, fun k hk bd hb => ?_⟩⟩
  · simp only [look_cons] at hv
    split at hv
    · rename_i e; injection hv with hv; subst hv; subst e
      simp only [RepV]
      exact ⟨RepD.grow g1.mem _ _ k3, _, Env.set_same _ _ _, rfl, Nat.le_refl _, fun _ => ⟨ax, k4⟩⟩
    · exact RepV.grow g1 _ _ (hs.tm t' v hv)
  · by_cases e : k = L
    · subst e; simp
    · rw [Env.set_other _ _ e] at hk
      exact List.mem_cons_of_mem _ (hs.lab k hk)
  · obtain ⟨bd', q1, q2⟩ := hs.kept k hk bd hb
    have e : k ≠ L := fun e => by subst e; rw [hfr] at q1; cases q1
    exact ⟨bd', by rw [Env.set_other _ _ e]; exact q1, q2⟩
end
end Go.AM

/-
  A range over a map whose keys are numbers: whatever the order in which they come.
  Formulas and proofs, as data.
-/
import Derived.Test.YtdbgmmeenljnoaaGreatDoorAnD
import Derived.Test.YtdbgmmeenljnoaaGreatDoorAnB
import Derived.Maps.RangeRun
set_option linter.unusedVariables false
set_option linter.unusedSimpArgs false
namespace Go.AM
open Go Go.RowKit

/-- What a plain value is. -/
def gval : V → Option Value
  | .d (.bool b) => some (.bool b)
  | .d (.int k n) => some (.int k n)
  | _ => none
def gents : List (D × V) → Option (List (Value × Value))
  | [] => some []
  | (.int k n, v) :: r => match gval v, gents r with
    | some u, some l => some ((.int k n, u) :: l)
    | _, _ => none
  | _ :: _ => none
theorem gents_of {M : Mem} : ∀ {es : List (D × V)} {l : List (Value × Value)} {ms : List MapEntry}, gents es = some l → RepEs M es ms → ms.map (fun e => (e.key, e.val)) = l
  | [], l, ms, h, hr => by
    simp only [gents, Option.some.injEq] at h; subst h
    simp only [RepEs] at hr; subst hr; rfl
  | (.int k n, v) :: r, l, ms, h, hr => by
    simp only [gents] at h
    split at h
    · rename_i u l' h1 h2
      injection h with h; subst h
      simp only [RepEs] at hr
      obtain ⟨e, r', rfl, e1, e2, e3, e4⟩ := hr
      have hu : e.val = u := by
        cases v <;> simp only [gval] at h1 <;> try cases h1
        rename_i x
        cases x <;> simp only [gval, Option.some.injEq] at h1 <;> try cases h1
        all_goals (simp only [RepV, RepD] at e3; exact e3)
      simp only [RepD] at e1
      simp only [List.map_cons, e1, hu, gents_of h2 e4]
    · cases h
  | (.bool _, _) :: _, l, ms, h, hr => by cases h
  | (.str _, _) :: _, l, ms, h, hr => by cases h
  | (.slice _, _) :: _, l, ms, h, hr => by cases h
  | (.nils, _) :: _, l, ms, h, hr => by cases h
  | (.fn _, _) :: _, l, ms, h, hr => by cases h
  | (.nilFunc, _) :: _, l, ms, h, hr => by cases h
  | (.nilPtr, _) :: _, l, ms, h, hr => by cases h
  | (.nilMap, _) :: _, l, ms, h, hr => by cases h
  | (.nilIface, _) :: _, l, ms, h, hr => by cases h
theorem gents_to {M : Mem} : ∀ {es : List (D × V)} {l : List (Value × Value)} {ms : List MapEntry}, gents es = some l → ms.map (fun e => (e.key, e.val)) = l → RepEs M es ms
  | [], l, ms, h, hr => by
    simp only [gents, Option.some.injEq] at h; subst h
    simp only [List.map_eq_nil_iff] at hr; subst hr; simp [RepEs]
  | (.int k n, v) :: r, l, ms, h, hr => by
    simp only [gents] at h
    split at h
    · rename_i u l' h1 h2
      injection h with h; subst h
      cases ms with
      | nil => cases hr
      | cons e ms =>
        simp only [List.map_cons, List.cons.injEq, Prod.mk.injEq] at hr
        obtain ⟨⟨e1, e2⟩, e3⟩ := hr
        simp only [RepEs]
        refine ⟨e, ms, rfl, by simp only [RepD]; exact e1, ?_, ?_, gents_to h2 e3⟩
        · cases v <;> simp only [gval] at h1 <;> try cases h1
          rfl
        · cases v <;> simp only [gval] at h1 <;> try cases h1
          rename_i x
          cases x <;> simp only [gval, Option.some.injEq] at h1 <;> try cases h1
          all_goals (simp only [RepV, RepD]; exact e2)
    · cases h
  | (.bool _, _) :: _, l, ms, h, hr => by cases h
  | (.str _, _) :: _, l, ms, h, hr => by cases h
  | (.slice _, _) :: _, l, ms, h, hr => by cases h
  | (.nils, _) :: _, l, ms, h, hr => by cases h
  | (.fn _, _) :: _, l, ms, h, hr => by cases h
  | (.nilFunc, _) :: _, l, ms, h, hr => by cases h
  | (.nilPtr, _) :: _, l, ms, h, hr => by cases h
  | (.nilMap, _) :: _, l, ms, h, hr => by cases h
  | (.nilIface, _) :: _, l, ms, h, hr => by cases h

/-- One object, its label the same, said in other words. -/
theorem Inv.swap {E M ι H w} (h : Inv E M ι H w) {l : Nat} {o o' : O} {bd : Bind} (ho : H l = some o) (hb : ι l = some bd) (hr : ORep M ι w bd o') (hh : ∀ n, o.holds n → o'.holds n) : Inv E M ι (H.set l (some o')) w := by
  have hget : ∀ k x, H.set l (some o') k = some x → (k = l ∧ x = o') ∨ (k ≠ l ∧ H k = some x) := fun k x hx => by
    by_cases e : k = l
    · subst e; rw [Sto.set_same] at hx; injection hx with hx; exact .inl ⟨rfl, hx.symm⟩
    · rw [Sto.set_other _ _ e] at hx; exact .inr ⟨e, hx⟩
  refine ⟨h.mem, fun k x hx => ?_, fun k k' x x' b1 b2 b hx hx' hb1 hb2 hk1 hk2 => ?_, fun k x b1 b hx hb1 hk1 a v hv hab => ?_, fun k x b1 b hx hb1 hk1 => ?_, h.le, h.new, h.size, h.os, h.tape, h.output, h.frame⟩
  · rcases hget k x hx with ⟨rfl, rfl⟩ | ⟨_, h1⟩
    · exact ⟨bd, hb, hr⟩
    · exact h.obj k x h1
  · have f : ∀ k x, H.set l (some o') k = some x → ∃ y, H k = some y := fun k x hx => by
      rcases hget k x hx with ⟨rfl, _⟩ | ⟨_, h1⟩
      · exact ⟨o, ho⟩
      · exact ⟨x, h1⟩
    obtain ⟨y, hy⟩ := f k x hx
    obtain ⟨y', hy'⟩ := f k' x' hx'
    exact h.inj k k' y y' b1 b2 b hy hy' hb1 hb2 hk1 hk2
  · rcases hget k x hx with ⟨rfl, rfl⟩ | ⟨_, h1⟩
    · exact hh _ (h.sep k o b1 b ho hb1 hk1 a v hv hab)
    · exact h.sep k x b1 b h1 hb1 hk1 a v hv hab
  · rcases hget k x hx with ⟨rfl, rfl⟩ | ⟨_, h1⟩
    · exact h.own k o b1 b ho hb1 hk1
    · exact h.own k x b1 b h1 hb1 hk1
section
variable {P : Program} {C : Ctx} {c : Code} {ρ : List (Nat × V)} {σ : List (Nat × Option O)} {ls : List Nat} {Q : Exit → A → Prop}
theorem lookO_set (l : Nat) (o : Option O) : lookO ((l, o) :: σ) = Sto.set (lookO σ) l o := lookO_upd σ [(l, o)]
/-- A map, opened. -/
theorem ac_expose {l kc : Nat} {es : List (D × V)} {gl : List (Value × Value)} (hl : lookO σ l = some (.map ⟨kc, es⟩)) (hg : gents es = some gl)
    (h : ∀ bm (ms : List MapEntry) clock, ms.map (fun e => (e.key, e.val)) = gl → BornOk ms clock → AC P C c ⟨ρ, (l, some (.raw (some bm) .map (.map ms.toArray clock))) :: σ, ls⟩ Q) : AC P C c ⟨ρ, σ, ls⟩ Q := by
  intro M ι a w hs
  obtain ⟨bd, hb, t1, b, ms, clock, t2, t3, t4, t5⟩ := hs.inv.obj l _ hl
  refine h b ms clock (gents_of hg t4.2) t5 M ι a w ⟨?_, hs.g, hs.tm, hs.lab, hs.sz, hs.df, hs.kept⟩
  rw [lookO_set]
  exact hs.inv.swap hl hb ⟨t1, b, t2, fun c hc => by injection hc with hc; exact hc.symm, t3⟩ (fun _ h => h)
/-- It is closed again. -/
theorem ac_conceal {l kc bm clock : Nat} {es : List (D × V)} {gl : List (Value × Value)} {ms : List MapEntry} (hl : lookO σ l = some (.raw (some bm) .map (.map ms.toArray clock))) (hg : gents es = some gl) (hm : ms.map (fun e => (e.key, e.val)) = gl) (hb : BornOk ms clock) (hk : ∀ p ∈ es, kcOk kc p.1 = true)
    (h : AC P C c ⟨ρ, (l, some (.map ⟨kc, es⟩)) :: σ, ls⟩ Q) : AC P C c ⟨ρ, σ, ls⟩ Q := by
  intro M ι a w hs
  obtain ⟨bd, hb', t1, b, t2, t3, t4⟩ := hs.inv.obj l _ hl
  refine h M ι a w ⟨?_, hs.g, hs.tm, hs.lab, hs.sz, hs.df, hs.kept⟩
  rw [lookO_set]
  exact hs.inv.swap hl hb' ⟨t1, b, ms, clock, t2, t4, ⟨hk, gents_to hg hm⟩, hb⟩ (fun _ h => h)
theorem setBlock_same {w : World} {b : Nat} {ob ob' : Obj} (h : w.heap[b]? = some ob) : (ChangeMaps.setBlock w b ob').heap[b]? = some ob' := by
  have hlt := heap_lt h
  simp [ChangeMaps.setBlock, hlt]
theorem setBlock_ne {w : World} {b k : Nat} {ob' : Obj} (h : k ≠ b) : (ChangeMaps.setBlock w b ob').heap[k]? = w.heap[k]? := by
  simp only [ChangeMaps.setBlock]
  rw [Array.getElem?_setIfInBounds_ne (fun e => h e.symm)]
theorem setBlock_size {w : World} {b : Nat} {ob' : Obj} : (ChangeMaps.setBlock w b ob').heap.size = w.heap.size := by simp [ChangeMaps.setBlock]
/-- A block that is known to the letter is turned. -/
theorem Inv.set_raw {E M ι H w} (h : Inv E M ι H w) {l : Nat} {q : Option Nat} {tg : Tag} {ob : Obj} {bd : Bind} {b : Nat} (ho : H l = some (.raw q tg ob)) (hb : ι l = some bd) (hk : bd.blk = some b) (ob' : Obj) : Inv E M ι (H.set l (some (.raw q tg ob'))) (ChangeMaps.setBlock w b ob') := by
  obtain ⟨bd', b', e1, e2, e3, e4, e5⟩ := h.raw_at ho
  rw [hb] at e1; injection e1 with e1; subst e1
  rw [hk] at e3; injection e3 with e3; subst e3
  have hM : ∀ a v, M a = some v → a.block ≠ b := fun a v hv hab => (h.sep l _ bd b ho hb hk a v hv hab).elim
  refine h.upd (fun k => k = l) (fun k => k = b) (Grow.refl _ _) (fun k hk' => setBlock_ne hk') (fun k hk' => .inr ⟨l, _, bd, rfl, ho, hb, by rw [hk, hk']⟩) (fun k hk' => ⟨Sto.set_other _ _ hk', fun _ _ => rfl⟩) ?_ ?_ ?_ ?_ (by rw [setBlock_size]; omega) rfl rfl rfl
  · rintro k o rfl ho'
    rw [Sto.set_same] at ho'; injection ho' with ho'; subst ho'
    refine ⟨bd, hb, ⟨e2, b, hk, e4, setBlock_same e5⟩, ?_⟩
    rintro b' hb'
    rw [hk] at hb'; injection hb' with hb'; subst hb'
    exact ⟨rfl, fun a v hv hab => absurd hab (hM a v hv)⟩
  · rintro k k' _ _ _ _ _ rfl rfl _ _ _ _ _ _; rfl
  · intro a v hv hn; rw [hv] at hn; cases hn
  · intro a v hv ht; exact absurd ht (hM a v hv)

theorem wp_two {rid : Nat} {o1 o2 : Oper} {Q' : Exit → Act → World → Prop} {a : Act} {w : World} (h1 : o1.guard = none) (h2 : o2.guard = none) (h : o1.wp P a w (fun a w => o2.wp P a w (Q' .normal) Q') Q') : (Code.region rid #[o1, o2] false).wp P Q' a w := by
  refine wp_region ?_
  have e : List.range (#[o1, o2] : Array Oper).size = [0, 1] := rfl
  rw [e]
  have w1 : ∀ t : Nat → Option Bool, Region.wanted o1 t = true := fun t => by unfold Region.wanted; rw [h1]
  have w2 : ∀ t : Nat → Option Bool, Region.wanted o2 t = true := fun t => by unfold Region.wanted; rw [h2]
  have g0 : (#[o1, o2] : Array Oper)[0]? = some o1 := rfl
  have g1 : (#[o1, o2] : Array Oper)[1]? = some o2 := rfl
  simp only [wpOps, g0, g1, w1, w2, if_true]
  refine .inl (Oper.wp_mono ?_ h)
  intro a w h
  exact .inl h
/-- The next entry of a map, whichever it is. -/
theorem ac_next {rid tn to ti L l bm since c0 clock : Nat} {ty1 ty2 : TypeId} {p1 p2 : String} {a1 a2 : Array Edge} {seen : Array Nat} {ms : List MapEntry}
    (hti : look ρ ti = some (.ptr L 0)) (hL : lookO σ L = some (.raw none .cells (.mapIter (some bm) since seen c0))) (hl : lookO σ l = some (.raw (some bm) .map (.map ms.toArray clock))) (hold : ∀ x ∈ ms, x.born < since) (hsc : since ≤ c0) (htn : Nat.blt tn C.N = true) (hto : Nat.blt to C.N = true)
    (hdone : (∀ x ∈ ms, seen.contains x.born = true) → Q .normal ⟨(to, .d (.bool false)) :: (tn, .any) :: ρ, σ, ls⟩)
    (hmore : ∀ e ∈ ms, seen.contains e.born = false → Q .normal ⟨(to, .d (.bool true)) :: (tn, .any) :: ρ, (L, some (.raw none .cells (.mapIter (some bm) since (seen.push e.born) clock))) :: σ, ls⟩) :
    AC P C (.region rid #[⟨some tn, .next (.tmp ti) false, ty1, p1, a1, none⟩, ⟨some to, .extract (.tmp tn) 0, ty2, p2, a2, none⟩] false) ⟨ρ, σ, ls⟩ Q := by
  intro M ι a w hs
  have htn' : tn < C.N := by simpa [Nat.blt_eq] using htn
  have hto' : to < C.N := by simpa [Nat.blt_eq] using hto
  obtain ⟨bdL, r, q1, q2, q3, q4, q5⟩ := hs.inv.raw_at hL
  obtain ⟨bdl, b, r1, r2, r3, r4, r5⟩ := hs.inv.raw_at hl
  have := r4 bm rfl
  subst this
  have hit := hs.tm ti _ hti
  simp only [RepV] at hit
  obtain ⟨bd', b', s1, s2, s3, s4⟩ := hit
  rw [q1] at s1; injection s1 with s1; subst s1
  rw [q3] at s3; injection s3 with s3; subst s3
  refine wp_two rfl rfl ?_
  have hput2 : ∀ (v : Value) (b : Bool) (vs : Array Value) (w' : World) (σ' : List (Nat × Option O)), v = .tuple vs → vs[0]? = some (.bool b) → Inv C.E M ι (lookO σ') w' → Q .normal ⟨(to, .d (.bool b)) :: (tn, .any) :: ρ, σ', ls⟩ →
      (Oper.mk (some to) (.extract (.tmp tn) 0) ty2 p2 a2 none).wp P (a.put (some tn) v) w' (fun a' w' => ∃ A' M' ι', Q .normal A' ∧ Sat C M' ι' A' a' w') (fun e a' w' => ∃ A' M' ι', Q e A' ∧ Sat C M' ι' A' a' w') := by
    intro v b vs w' σ' hv hvs hinv hq
    subst hv
    have hev : (a.put (some tn) (.tuple vs)).eval (.tmp tn) = .tuple vs := by
      show (a.put (some tn) (.tuple vs)).tmps.getD tn undef = _
      rw [getD_put (by rw [hs.sz]; exact htn'), if_pos rfl]
    have hrun : (execOp (a.put (some tn) (.tuple vs)).eval ⟨some to, .extract (.tmp tn) 0, ty2, p2, a2, none⟩).run P w' = .ok (.value (.bool b)) w' := by
      simp [execOp, Instr.extract, hev, hvs]
    unfold Oper.wp
    rw [hrun, Oper.upon_value]
    refine ⟨_, M, ι, hq, ⟨hinv, hs.g, fun t v hv => ?_, hs.lab, ?_, ?_, hs.kept⟩⟩
    · simp only [look_cons] at hv
      have hsz1 : to < (a.put (some tn) (.tuple vs)).tmps.size := by simp [Act.put, hs.sz, hto']
      rw [getD_put hsz1]
      by_cases e1 : to = t
      · rw [if_pos e1] at hv; injection hv with hv; subst hv
        rw [if_pos e1.symm]; simp [RepV, RepD]
      · rw [if_neg e1] at hv
        rw [if_neg (fun e => e1 e.symm), getD_put (by rw [hs.sz]; exact htn')]
        by_cases e2 : tn = t
        · rw [if_pos e2] at hv; injection hv with hv; subst hv
          simp [RepV]
        · rw [if_neg e2] at hv
          rw [if_neg (fun e => e2 e.symm)]
          exact hs.tm t v hv
    · simp [Act.put, hs.sz]
    · simp [Act.put, hs.df]
  have hev0 : a.eval (.tmp ti) = .pointer (some ⟨r, 0, none⟩) := s4
  rcases run_next_at (P := P) w ty1 r bm since c0 seen ms.toArray clock q5 r5 (by simpa using hold) hsc with ⟨h0, hrun⟩ | ⟨e, he, w1, hw1, hrun⟩
  · have hrun' : (execOp a.eval ⟨some tn, .next (.tmp ti) false, ty1, p1, a1, none⟩).run P w = .ok (.value (.tuple #[.bool false])) w := by
      simp [execOp, hev0, hrun]
    unfold Oper.wp
    rw [hrun', Oper.upon_value]
    refine hput2 _ false #[.bool false] w σ rfl rfl hs.inv (hdone fun x hx => ?_)
    cases hc : seen.contains x.born with
    | true => rfl
    | false =>
      exfalso
      have hmem : x ∈ (leftOf ms.toArray seen).toList := by
        have h3 : x.born ∉ seen := by simpa using hc
        simp [leftOf, hx, h3]
      have : (leftOf ms.toArray seen).toList = [] := List.eq_nil_of_length_eq_zero (by simpa using h0)
      rw [this] at hmem; cases hmem
  · have hrun' : (execOp a.eval ⟨some tn, .next (.tmp ti) false, ty1, p1, a1, none⟩).run P w = .ok (.value (.tuple #[.bool true, e.key, e.val])) (ChangeMaps.setBlock w1 r (.mapIter (some bm) since (seen.push e.born) clock)) := by
      simp [execOp, hev0, hrun]
    unfold Oper.wp
    rw [hrun', Oper.upon_value]
    have hin : e ∈ ms ∧ seen.contains e.born = false := by simpa [leftOf] using he
    have hi1 : Inv C.E M ι (lookO σ) w1 := by
      rcases hw1 with rfl | rfl
      · exact hs.inv
      · exact hs.inv.of_heap rfl rfl rfl rfl
    have hi2 := hi1.set_raw hL q1 q3 (.mapIter (some bm) since (seen.push e.born) clock)
    exact hput2 _ true #[.bool true, e.key, e.val] _ _ rfl rfl (by rw [lookO_set]; exact hi2) (hmore e hin.1 hin.2)
end

/-! ### The loop -/
def foldP {X : Type} (f : Int → X → Option X) : List Int → X → Option X
  | [], x => some x
  | k :: r, x => match f k x with
    | some y => foldP f r y
    | none => none
theorem foldP_cons {X : Type} {f : Int → X → Option X} {k : Int} {r : List Int} {x z : X} (h : foldP f (k :: r) x = some z) : ∃ y, f k x = some y ∧ foldP f r y = some z := by
  unfold foldP at h
  split at h
  · rename_i y hy; exact ⟨y, hy, h⟩
  · cases h
def keyZ (e : MapEntry) : Int := match e.key with
  | .int _ k => k
  | _ => 0
def lefts (ms : List MapEntry) (seen : Array Nat) : List MapEntry := ms.filter fun e => !seen.contains e.born
theorem lefts_push : ∀ {ms : List MapEntry} {seen : Array Nat} {e : MapEntry}, (ms.map (·.born)).Nodup → e ∈ ms → seen.contains e.born = false → (lefts ms seen).Perm (e :: lefts ms (seen.push e.born))
  | [], seen, e, _, h, _ => by cases h
  | x :: ms, seen, e, hn, h, hs => by
    simp only [List.map_cons, List.nodup_cons] at hn
    rcases List.mem_cons.1 h with rfl | h
    · have hrest : lefts ms (seen.push e.born) = lefts ms seen := List.filter_congr fun y hy => by
        have hne : y.born ≠ e.born := fun he => hn.1 (by rw [← he]; exact List.mem_map.2 ⟨y, hy, rfl⟩)
        simp [Array.contains_push, hne]
      have h1 : lefts (e :: ms) seen = e :: lefts ms seen := by
        unfold lefts; rw [List.filter_cons, hs]; rfl
      have h2 : lefts (e :: ms) (seen.push e.born) = lefts ms (seen.push e.born) := by
        unfold lefts; rw [List.filter_cons]
        have : (seen.push e.born).contains e.born = true := by simp
        rw [this]; rfl
      rw [h1, h2, hrest]
    · have ih := lefts_push hn.2 h hs
      have hne : x.born ≠ e.born := fun he => hn.1 (by rw [he]; exact List.mem_map.2 ⟨e, h, rfl⟩)
      simp only [lefts] at ih ⊢
      rw [List.filter_cons, List.filter_cons]
      have hb : (seen.push e.born).contains x.born = seen.contains x.born := by simp [Array.contains_push, hne]
      rw [hb]
      cases seen.contains x.born with
      | true => simpa using ih
      | false =>
        simp only [Bool.not_false, if_true]
        exact (ih.cons x).trans (List.Perm.swap e x _)
section
variable {P : Program} {C : Ctx} {st : A} {Q : Exit → A → Prop} {X : Type}
def mapJ (ti L l bm clock : Nat) (ms : List MapEntry) (ρf : X → List (Nat × V)) (σf : X → List (Nat × Option O)) (lf : List Nat) (x : X) (seen : Array Nat) : A :=
  ⟨(ti, .ptr L 0) :: ρf x, (L, some (.raw none .cells (.mapIter (some bm) clock seen clock))) :: (l, some (.raw (some bm) .map (.map ms.toArray clock))) :: σf x, lf⟩
theorem ac_rangeM {B0 B1 rid tn to ti L l bm clock : Nat} {ty1 ty2 : TypeId} {p1 p2 : String} {a1 a2 : Array Edge} {body : Code} {ms : List MapEntry} (ρf : X → List (Nat × V)) (σf : X → List (Nat × Option O)) (lf : List Nat) (f : Int → X → Option X) {x0 xe : X}
    (hb : BornOk ms clock) (hlL : L ≠ l) (hkey : ∀ e ∈ ms, ∃ k, e.key = .int .i64 k) (hperm : ∀ q, q.Perm (ms.map keyZ) → foldP f q x0 = some xe)
    (htn : Nat.blt tn C.N = true) (hto : Nat.blt to C.N = true) (hw : Weak C st (mapJ ti L l bm clock ms ρf σf lf x0 #[]))
    (hbody : ∀ e ∈ ms, ∀ k seen x y, e.key = .int .i64 k → f k x = some y → AC P C body ⟨(to, .d (.bool true)) :: (tn, .any) :: (ti, .ptr L 0) :: ρf x, (L, some (.raw none .cells (.mapIter (some bm) clock (seen.push e.born) clock))) :: (L, some (.raw none .cells (.mapIter (some bm) clock seen clock))) :: (l, some (.raw (some bm) .map (.map ms.toArray clock))) :: σf x, lf⟩
      (blockQ B1 (thenQ (fun s => Weak C s (mapJ ti L l bm clock ms ρf σf lf y (seen.push e.born))) (blockQ B0 Q))))
    (hend : ∀ seen : Array Nat, Q .normal ⟨(to, .d (.bool false)) :: (tn, .any) :: (ti, .ptr L 0) :: ρf xe, (L, some (.raw none .cells (.mapIter (some bm) clock seen clock))) :: (l, some (.raw (some bm) .map (.map ms.toArray clock))) :: σf xe, lf⟩) :
    AC P C (.block B0 (.loop (.seq (.region rid #[⟨some tn, .next (.tmp ti) false, ty1, p1, a1, none⟩, ⟨some to, .extract (.tmp tn) 0, ty2, p2, a2, none⟩] false) (.seq (.cond (.tmp to) .skip (.exit B0)) (.block B1 body))))) st Q := by
  refine ac_block (ac_loop (fun p : { p : X × Array Nat // ∀ q : List Int, q.Perm ((lefts ms p.2).map keyZ) → foldP f q p.1 = some xe } => mapJ ti L l bm clock ms ρf σf lf p.1.1 p.1.2) (fun p => (lefts ms p.1.2).length) ⟨(x0, #[]), fun q hq => hperm q (by
    have : lefts ms #[] = ms := by simp [lefts]
    rwa [this] at hq)⟩ hw ?_)
  rintro ⟨⟨x, seen⟩, hI⟩
  dsimp only at hI ⊢
  refine ac_seq ?_
  refine ac_next (l := l) (L := L) (bm := bm) (since := clock) (c0 := clock) (clock := clock) (seen := seen) (ms := ms) (by simp [look_cons]) (by simp [lookO, look_cons]) (by simp [lookO, look_cons, hlL]) hb.2 (Nat.le_refl _) htn hto (fun hall => ?_) (fun e he hs => ?_)
  · have hnil : lefts ms seen = [] := by
      simp only [lefts, List.filter_eq_nil_iff]
      intro y hy; rw [hall y hy]; simp
    have := hI [] (by rw [hnil]; exact List.Perm.refl _)
    simp only [foldP, Option.some.injEq] at this
    subst this
    refine ac_seq (ac_cond (b := false) (by show look ((to, _) :: _) to = _; rw [look_cons, if_pos rfl]) (fun e => by cases e) (fun _ => ac_exit ?_))
    simp only [thenQ, blockQ, if_true]
    exact hend seen
  · obtain ⟨k, hk⟩ := hkey e he
    have hp := lefts_push hb.1 he hs
    have hkz : keyZ e = k := by simp [keyZ, hk]
    have hstep : ∀ q : List Int, q.Perm ((lefts ms (seen.push e.born)).map keyZ) → foldP f (k :: q) x = some xe := fun q hq => hI _ (by
      refine List.Perm.trans ?_ (hp.map keyZ).symm
      rw [List.map_cons, hkz]
      exact hq.cons k)
    obtain ⟨y, hy, _⟩ := foldP_cons (hstep _ (List.Perm.refl _))
    have hnext : ∀ q : List Int, q.Perm ((lefts ms (seen.push e.born)).map keyZ) → foldP f q y = some xe := fun q hq => by
      obtain ⟨y', h1, h2⟩ := foldP_cons (hstep q hq)
      rw [hy] at h1; injection h1 with h1; subst h1; exact h2
    have hlt : (lefts ms (seen.push e.born)).length < (lefts ms seen).length := by rw [hp.length_eq]; simp
    refine ac_seq (ac_cond (b := true) (by show look ((to, _) :: _) to = _; rw [look_cons, if_pos rfl]) (fun _ => ac_skip ?_) (fun e => by cases e))
    change AC _ _ _ _ _
    refine ac_block (ac_mono (hbody e he k seen x y hk hy) ?_)
    intro ex s hq
    have fin : Weak C s (mapJ ti L l bm clock ms ρf σf lf y (seen.push e.born)) → ∃ p : { p : X × Array Nat // ∀ q : List Int, q.Perm ((lefts ms p.2).map keyZ) → foldP f q p.1 = some xe }, (lefts ms p.1.2).length < (lefts ms seen).length ∧ Weak C s (mapJ ti L l bm clock ms ρf σf lf p.1.1 p.1.2) :=
      fun hw => ⟨⟨(y, seen.push e.born), hnext⟩, hlt, hw⟩
    cases ex with
    | normal => exact fin hq
    | exit j =>
      simp only [blockQ] at hq ⊢
      by_cases hj : j = B1
      · rw [if_pos hj] at hq ⊢; exact fin hq
      · rw [if_neg hj] at hq ⊢
        exact hq
    | _ => exact hq

/-! ### In the words of a walk -/
theorem wexpose {c : Code} {ρ : List (Nat × V)} {σ : List (Nat × Option O)} {ls : List Nat} (l : Nat) {kc : Nat} {es : List (D × V)} {gl : List (Value × Value)} (hl : lo σ l = some (.map ⟨kc, es⟩)) (hg : gents es = some gl)
    (h : ∀ bm (ms : List MapEntry) clock, ms.map (fun e => (e.key, e.val)) = gl → BornOk ms clock → W P C c ⟨ρ, (l, some (.raw (some bm) .map (.map ms.toArray clock))) :: σ, ls⟩ Q) : W P C c ⟨ρ, σ, ls⟩ Q :=
  ⟨ac_expose (by rw [← lo_eq]; exact hl) hg fun bm ms clock h1 h2 => (h bm ms clock h1 h2).ac⟩
theorem wconceal {c : Code} {ρ : List (Nat × V)} {σ : List (Nat × Option O)} {ls : List Nat} (l : Nat) {kc bm clock : Nat} {es : List (D × V)} {gl : List (Value × Value)} {ms : List MapEntry} (hl : lo σ l = some (.raw (some bm) .map (.map ms.toArray clock))) (hg : gents es = some gl) (hm : ms.map (fun e => (e.key, e.val)) = gl) (hb : BornOk ms clock) (hk : ∀ p ∈ es, kcOk kc p.1 = true)
    (h : W P C c ⟨ρ, (l, some (.map ⟨kc, es⟩)) :: σ, ls⟩ Q) : W P C c ⟨ρ, σ, ls⟩ Q := ⟨ac_conceal (by rw [← lo_eq]; exact hl) hg hm hb hk h.ac⟩
theorem rangeMW {B0 B1 rid tn to ti : Nat} (L l : Nat) {bm clock : Nat} {ty1 ty2 : TypeId} {p1 p2 : String} {a1 a2 : Array Edge} {body : Code} {ms : List MapEntry} (ρf : X → List (Nat × V)) (σf : X → List (Nat × Option O)) (lf : List Nat) (f : Int → X → Option X) (x0 : X) {xe : X}
    (hb : BornOk ms clock) (hlL : L ≠ l) (hkey : ∀ e ∈ ms, ∃ k, e.key = .int .i64 k) (hperm : ∀ q, q.Perm (ms.map keyZ) → foldP f q x0 = some xe)
    (htn : Nat.blt tn C.N = true) (hto : Nat.blt to C.N = true) (h1 : coR st.ρ (mapJ ti L l bm clock ms ρf σf lf x0 #[]).ρ = (mapJ ti L l bm clock ms ρf σf lf x0 #[]).ρ) (h2 : coS st.σ (mapJ ti L l bm clock ms ρf σf lf x0 #[]).σ = (mapJ ti L l bm clock ms ρf σf lf x0 #[]).σ) (h3 : onB C (mapJ ti L l bm clock ms ρf σf lf x0 #[]) = true)
    (hbody : ∀ e ∈ ms, ∀ (k : Int) (seen : Array Nat) (x y : X), e.key = .int .i64 k → f k x = some y → W P C body ⟨(to, .d (.bool true)) :: (tn, .any) :: (ti, .ptr L 0) :: ρf x, (L, some (.raw none .cells (.mapIter (some bm) clock (seen.push e.born) clock))) :: (l, some (.raw (some bm) .map (.map ms.toArray clock))) :: σf x, lf⟩
      (blockQ B1 (thenQ (fun s => Weak C s (mapJ ti L l bm clock ms ρf σf lf y (seen.push e.born))) (blockQ B0 Q))))
    (hend : ∀ seen : Array Nat, Q .normal ⟨(to, .d (.bool false)) :: (tn, .any) :: (ti, .ptr L 0) :: ρf xe, (L, some (.raw none .cells (.mapIter (some bm) clock seen clock))) :: (l, some (.raw (some bm) .map (.map ms.toArray clock))) :: σf xe, lf⟩) :
    W P C (.block B0 (.loop (.seq (.region rid #[⟨some tn, .next (.tmp ti) false, ty1, p1, a1, none⟩, ⟨some to, .extract (.tmp tn) 0, ty2, p2, a2, none⟩] false) (.seq (.cond (.tmp to) .skip (.exit B0)) (.block B1 body))))) st Q := by
  refine ⟨ac_rangeM ρf σf lf f hb hlL hkey hperm htn hto (weak_co h1 h2 h3) (fun e he k seen x y h1 h2 => ?_) hend⟩
  refine ac_weak (x := ⟨(to, .d (.bool true)) :: (tn, .any) :: (ti, .ptr L 0) :: ρf x, (L, some (.raw none .cells (.mapIter (some bm) clock (seen.push e.born) clock))) :: (l, some (.raw (some bm) .map (.map ms.toArray clock))) :: σf x, lf⟩) (fun M ι a w hs => ⟨M, ι, ?_⟩) (hbody e he k seen x y h1 h2).ac
  refine ⟨?_, hs.g, hs.tm, hs.lab, hs.sz, hs.df, hs.kept⟩
  have hi := hs.inv
  rw [lookO_set] at hi ⊢
  rw [lookO_set] at hi
  have : ∀ (H : Sto) (o o' : Option O), Sto.set (Sto.set H L o) L o' = Sto.set H L o' := fun H o o' => funext fun k => by
    simp only [Sto.set]; split <;> rfl
  rwa [this] at hi
end
section
variable {P : Program} {C : Ctx} {c : Code} {ρ : List (Nat × V)} {σ : List (Nat × Option O)} {ls : List Nat} {Q : Exit → A → Prop}
/-- A row's length in other words. -/
theorem weak_arrn (t l : Nat) {n m : Nat} (ht : lk ρ t = some (.arr n l)) (h : n = m) : Weak C ⟨ρ, σ, ls⟩ ⟨(t, .arr m l) :: ρ, σ, ls⟩ := by
  subst h
  exact fun M ι a w hs => ⟨M, ι, hs.known (by rw [← lk_eq]; exact ht)⟩
/-- A value in other words. -/
theorem weak_set (t : Nat) {u v : V} (ht : lk ρ t = some u) (h : u = v) : Weak C ⟨ρ, σ, ls⟩ ⟨(t, v) :: ρ, σ, ls⟩ := by
  subst h
  exact fun M ι a w hs => ⟨M, ι, hs.known (by rw [← lk_eq]; exact ht)⟩
/-- nil, as a row that may be written. -/
theorem wrA (L t sz e : Nat) (hL : memB L ls = false) (ht : lk ρ t = some (.d .nils)) (h : W P C c ⟨(t, .arr 0 L) :: ρ, (L, some (.arr [] sz e)) :: σ, L :: ls⟩ Q) : W P C c ⟨ρ, σ, ls⟩ Q := by
  refine ⟨ac_weak (fun M ι a w hs => ?_) h.ac⟩
  have hfr : ι L = none := by
    apply Classical.byContradiction
    intro hn
    exact not_mem_of hL (hs.lab L hn)
  obtain ⟨g1, g2⟩ := hs.inv.arr_nil hfr sz e
  have k3 := hs.tm t _ (by rw [← lk_eq]; exact ht)
  simp only [RepV, RepD] at k3
  refine ⟨M, ι.set L ⟨.row, none, 0, 0⟩, ⟨by rw [lookO_set]; exact g2, hs.g, fun t' v hv => ?_, fun k hk => ?_, hs.sz, hs.df, fun k hk bd hb => ?_⟩⟩
  · simp only [look_cons] at hv
    split at hv
    · rename_i e; injection hv with hv; subst hv; subst e
      rw [k3]
      simp only [RepV]
      exact ⟨⟨_, _, _, rfl⟩, _, Env.set_same _ _ _, rfl, Nat.le_refl _, fun _ => trivial⟩
    · exact RepV.grow g1 _ _ (hs.tm t' v hv)
  · by_cases e : k = L
    · subst e; simp
    · rw [Env.set_other _ _ e] at hk
      exact List.mem_cons_of_mem _ (hs.lab k hk)
  · obtain ⟨bd', q1, q2⟩ := hs.kept k hk bd hb
    have e : k ≠ L := fun e => by subst e; rw [hfr] at q1; cases q1
    exact ⟨bd', by rw [Env.set_other _ _ e]; exact q1, q2⟩
end
end Go.AM
set_option linter.unusedVariables false
set_option linter.unusedSimpArgs false
namespace Go.AM
open Go
inductive Frm where
  | mk (kind : Int) (ty : Typ) (terms : List Trm) (args : List Frm)
def Frm.kind : Frm → Int | .mk k0 _ _ _ => k0
def Frm.ty : Frm → Typ | .mk _ t1 _ _ => t1
def Frm.terms : Frm → List Trm | .mk _ _ t2 _ => t2
def Frm.args : Frm → List Frm | .mk _ _ _ a3 => a3
@[simp] theorem Frm.kind_mk (k0 : Int) (t1 : Typ) (t2 : List Trm) (a3 : List Frm) : (Frm.mk k0 t1 t2 a3).kind = k0 := rfl
@[simp] theorem Frm.ty_mk (k0 : Int) (t1 : Typ) (t2 : List Trm) (a3 : List Frm) : (Frm.mk k0 t1 t2 a3).ty = t1 := rfl
@[simp] theorem Frm.terms_mk (k0 : Int) (t1 : Typ) (t2 : List Trm) (a3 : List Frm) : (Frm.mk k0 t1 t2 a3).terms = t2 := rfl
@[simp] theorem Frm.args_mk (k0 : Int) (t1 : Typ) (t2 : List Trm) (a3 : List Frm) : (Frm.mk k0 t1 t2 a3).args = a3 := rfl
theorem Frm.ind {p : Frm → Prop} (h : ∀ k0 t1 t2 a3, (∀ a ∈ a3, p a) → p (.mk k0 t1 t2 a3)) (t : Frm) : p t :=
  Frm.rec (motive_1 := p) (motive_2 := fun l => ∀ a ∈ l, p a) (fun k0 t1 t2 a3 ih => h k0 t1 t2 a3 ih) (fun a ha => by cases ha)
    (fun a l ha hl b hb => (List.mem_cons.1 hb).elim (fun e => e ▸ ha) (hl b)) t
mutual
def dFmR : Frm → List D
  | .mk k0 t1 t2 a3 => [.int .i64 k0, .int .i64 t1.kind, .slice (dTys t1.args), .slice (dTms t2), .slice (dFms a3)]
def dFms : List Frm → List (List D)
  | [] => []
  | a :: l => dFmR a :: dFms l
end
def dFm (t : Frm) : List D := [.int .i64 t.kind, .int .i64 t.ty.kind, .slice (dTys t.ty.args), .slice (dTms t.terms), .slice (dFms t.args)]
theorem dFmR_eq (t : Frm) : dFmR t = dFm t := by cases t; rfl
theorem dFms_cons (a : Frm) (l : List Frm) : dFms (a :: l) = dFm a :: dFms l := by rw [← dFmR_eq]; rfl
theorem dFms_map : ∀ l, dFms l = l.map dFm
  | [] => rfl
  | a :: l => by rw [dFms_cons, dFms_map l]; rfl
theorem dFms_len (l : List Frm) : (dFms l).length = l.length := by rw [dFms_map, List.length_map]
theorem dFms_sz (l : List Frm) : ∀ e ∈ dFms l, e.length = 5 := fun e he => by
  rw [dFms_map] at he
  obtain ⟨t, _, rfl⟩ := List.mem_map.1 he
  rfl
theorem dFms_app (l r : List Frm) : dFms l ++ dFms r = dFms (l ++ r) := by rw [dFms_map, dFms_map, dFms_map, List.map_append]
theorem dFms_get {l : List Frm} {i : Nat} {a : Frm} (h : l[i]? = some a) : (dFms l)[i]? = some (dFm a) := by rw [dFms_map, List.getElem?_map, h]; rfl
theorem dFms_set (l : List Frm) (i : Nat) (a : Frm) : (dFms l).set i (dFm a) = dFms (l.set i a) := by rw [dFms_map, dFms_map]; exact mp_set ..
theorem dFms_cut (l : List Frm) (m k : Nat) : ((dFms l).take m).drop k = dFms ((l.take m).drop k) := by rw [dFms_map, dFms_map]; exact mp_cut ..
inductive Prf where
  | mk (kind : Int) (index : Int) (ty : Typ) (terms : List Trm) (forms : List Frm) (args : List Prf)
def Prf.kind : Prf → Int | .mk k0 _ _ _ _ _ => k0
def Prf.index : Prf → Int | .mk _ i1 _ _ _ _ => i1
def Prf.ty : Prf → Typ | .mk _ _ t2 _ _ _ => t2
def Prf.terms : Prf → List Trm | .mk _ _ _ t3 _ _ => t3
def Prf.forms : Prf → List Frm | .mk _ _ _ _ f4 _ => f4
def Prf.args : Prf → List Prf | .mk _ _ _ _ _ a5 => a5
@[simp] theorem Prf.kind_mk (k0 : Int) (i1 : Int) (t2 : Typ) (t3 : List Trm) (f4 : List Frm) (a5 : List Prf) : (Prf.mk k0 i1 t2 t3 f4 a5).kind = k0 := rfl
@[simp] theorem Prf.index_mk (k0 : Int) (i1 : Int) (t2 : Typ) (t3 : List Trm) (f4 : List Frm) (a5 : List Prf) : (Prf.mk k0 i1 t2 t3 f4 a5).index = i1 := rfl
@[simp] theorem Prf.ty_mk (k0 : Int) (i1 : Int) (t2 : Typ) (t3 : List Trm) (f4 : List Frm) (a5 : List Prf) : (Prf.mk k0 i1 t2 t3 f4 a5).ty = t2 := rfl
@[simp] theorem Prf.terms_mk (k0 : Int) (i1 : Int) (t2 : Typ) (t3 : List Trm) (f4 : List Frm) (a5 : List Prf) : (Prf.mk k0 i1 t2 t3 f4 a5).terms = t3 := rfl
@[simp] theorem Prf.forms_mk (k0 : Int) (i1 : Int) (t2 : Typ) (t3 : List Trm) (f4 : List Frm) (a5 : List Prf) : (Prf.mk k0 i1 t2 t3 f4 a5).forms = f4 := rfl
@[simp] theorem Prf.args_mk (k0 : Int) (i1 : Int) (t2 : Typ) (t3 : List Trm) (f4 : List Frm) (a5 : List Prf) : (Prf.mk k0 i1 t2 t3 f4 a5).args = a5 := rfl
theorem Prf.ind {p : Prf → Prop} (h : ∀ k0 i1 t2 t3 f4 a5, (∀ a ∈ a5, p a) → p (.mk k0 i1 t2 t3 f4 a5)) (t : Prf) : p t :=
  Prf.rec (motive_1 := p) (motive_2 := fun l => ∀ a ∈ l, p a) (fun k0 i1 t2 t3 f4 a5 ih => h k0 i1 t2 t3 f4 a5 ih) (fun a ha => by cases ha)
    (fun a l ha hl b hb => (List.mem_cons.1 hb).elim (fun e => e ▸ ha) (hl b)) t
mutual
def dPfR : Prf → List D
  | .mk k0 i1 t2 t3 f4 a5 => [.int .i64 k0, .int .i64 i1, .int .i64 t2.kind, .slice (dTys t2.args), .slice (dTms t3), .slice (dFms f4), .slice (dPfs a5)]
def dPfs : List Prf → List (List D)
  | [] => []
  | a :: l => dPfR a :: dPfs l
end
def dPf (t : Prf) : List D := [.int .i64 t.kind, .int .i64 t.index, .int .i64 t.ty.kind, .slice (dTys t.ty.args), .slice (dTms t.terms), .slice (dFms t.forms), .slice (dPfs t.args)]
theorem dPfR_eq (t : Prf) : dPfR t = dPf t := by cases t; rfl
theorem dPfs_cons (a : Prf) (l : List Prf) : dPfs (a :: l) = dPf a :: dPfs l := by rw [← dPfR_eq]; rfl
theorem dPfs_map : ∀ l, dPfs l = l.map dPf
  | [] => rfl
  | a :: l => by rw [dPfs_cons, dPfs_map l]; rfl
theorem dPfs_len (l : List Prf) : (dPfs l).length = l.length := by rw [dPfs_map, List.length_map]
theorem dPfs_sz (l : List Prf) : ∀ e ∈ dPfs l, e.length = 7 := fun e he => by
  rw [dPfs_map] at he
  obtain ⟨t, _, rfl⟩ := List.mem_map.1 he
  rfl
theorem dPfs_app (l r : List Prf) : dPfs l ++ dPfs r = dPfs (l ++ r) := by rw [dPfs_map, dPfs_map, dPfs_map, List.map_append]
theorem dPfs_get {l : List Prf} {i : Nat} {a : Prf} (h : l[i]? = some a) : (dPfs l)[i]? = some (dPf a) := by rw [dPfs_map, List.getElem?_map, h]; rfl
theorem dPfs_set (l : List Prf) (i : Nat) (a : Prf) : (dPfs l).set i (dPf a) = dPfs (l.set i a) := by rw [dPfs_map, dPfs_map]; exact mp_set ..
theorem dPfs_cut (l : List Prf) (m k : Nat) : ((dPfs l).take m).drop k = dPfs ((l.take m).drop k) := by rw [dPfs_map, dPfs_map]; exact mp_cut ..
end Go.AM

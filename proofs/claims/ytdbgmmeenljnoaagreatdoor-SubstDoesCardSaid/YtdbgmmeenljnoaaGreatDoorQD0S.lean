/-
  The numbers of a set, ascending: what the reference reckons.
-/
import Derived.Test.YtdbgmmeenljnoaaGreatDoorQD0T
import Derived.Test.YtdbgmmeenljnoaaGreatDoorAnQ
set_option linter.unusedVariables false
set_option linter.unusedSimpArgs false
set_option maxRecDepth 20000
set_option maxHeartbeats 40000000
namespace Go.AM
open Go Go.RowKit Go.Proofs
theorem gents_IB : ∀ l : List (Int × Bool), gents (dMap kI vB l) = some (l.map fun p => (Value.int .i64 p.1, Value.bool p.2))
  | [] => rfl
  | (k, b) :: l => by
    have := gents_IB l
    simp only [dMap, kI, vB] at this ⊢
    simp only [List.map_cons, gents, gval, this]
theorem ref03_Sorted_ev {found : List (Int × Bool)} {r : List Int} (h : sortedKeysI found = some r) : Ev Tryz.prog GL 48 [.map 1000] [(1000, .map ⟨1, dMap kI vB found⟩)] (.d (.slice (dInts r))) [(1000, .map ⟨1, dMap kI vB found⟩)] := by
  have hl : found.length ≤ 2000000000 ∧ sortI (found.map (·.1)) = r := by
    unfold sortedKeysI at h
    cases hk : keysOk (found.map (·.1)) with
    | false => rw [hk] at h; cases h
    | true =>
      rw [hk] at h
      simp only [keysOk, Bool.and_eq_true, decide_eq_true_eq, List.length_map] at hk
      exact ⟨hk.1, Option.some.inj h⟩
  obtain ⟨hl, hr⟩ := hl
  refine evb pg Tryz.func48 rfl (by kernel_rfl) 44 [.tmp 2] rfl rfl rfl (fun E ι0 => ?_)
  refine rg pg ?_
  refine rg pg ?_
  refine wrA 200 3 1 3 rfl rfl ?_
  refine wexpose 1000 rfl (gents_IB found) (fun bm ms clock hms hb => ?_)
  have hkeys : ms.map (·.key) = found.map fun p => Value.int .i64 p.1 := by
    have := congrArg (List.map Prod.fst) hms
    simpa [Function.comp_def] using this
  have hkey : ∀ e ∈ ms, ∃ k, e.key = .int .i64 k := fun e he => by
    have : e.key ∈ ms.map (·.key) := List.mem_map.2 ⟨e, he, rfl⟩
    rw [hkeys] at this
    obtain ⟨p, _, hp⟩ := List.mem_map.1 this
    exact ⟨p.1, hp.symm⟩
  have hkz : ms.map keyZ = found.map (·.1) := by
    have e2 : (ms.map (·.key)).map (fun v => match v with | Value.int _ a => a | _ => 0) = found.map (·.1) := by
      rw [hkeys]; simp [Function.comp_def]
    rw [← e2, List.map_map]
    exact List.map_congr_left fun e he => rfl
  refine sq ?_
  refine rg pg ?_
  refine rangeMW (X := List Int) 7 1000 (fun x => [(0, .map 1000), (3, .arr (dInts x).length 200)]) (fun x => [(200, some (.arr (dInts x) 1 3))]) [7, 1000, 200] insF [] (xe := r) hb (by decide) hkey (fun q hq => by rw [← hr]; exact insF_sort (by rw [hkz] at hq; exact hq) (by simpa using hl)) rfl rfl rfl rfl rfl (fun e he k seen x y hk hf => ?_) (fun seen => ?_)
  · have hx : x.length + 1 ≤ 2000000000 ∧ y = insR k x := by
      unfold insF at hf
      split at hf
      · rename_i hh; exact ⟨hh, (Option.some.inj hf).symm⟩
      · cases hf
    obtain ⟨hx, rfl⟩ := hx
    refine rg pg ?_
    refine EntW.mk (l := 1000) (e := e) rfl rfl (by simpa using he) (by simpa using hb.1) hk ?_
    refine rg pg ?_
    refine Ask.mk rfl (LenW.mk (dInts_len _) ?_)
    refine rg pg ?_
    refine Ask.mk ⟨rfl, rfl⟩ (BsW.mk (dInts_map [k]).symm (dInts_sz _) ?_)
    refine Ask.mk ⟨rfl, rfl, rfl⟩ (AppW.mk (dInts_app x [k]) (dInts_sz _) (dInts_sz _) (by rw [dInts_len, dInts_len]; exact hx) ?_)
    refine sq ?_
    refine bk ?_
    have hrun := seekS_run k x x.length k
    refine loopK (X := { p : Nat × Int // p.1 ≤ x.length }) (fun p => ⟨[(0, .map 1000), (3, .arr (dInts (x ++ [k])).length 200), (4, .d (.int .i64 k)), (5, .d (.int .i64 p.1.1)), (7, .ptr 7 0)], [(200, some (.arr (dInts (seekL x p.1)) 1 3)), (7, some (.raw none .cells (.mapIter (some bm) clock (seen.push e.born) clock))), (1000, some (.raw (some bm) .map (.map ms.toArray clock)))], [7, 1000, 200]⟩)
      (step := seekT k x)
      (x0 := ⟨(x.length, k), Nat.le_refl _⟩) (m := x.length + 1) (r := insR k x) ?_ rfl (by show coS _ _ = _; rw [show seekL x (x.length, k) = x ++ [k] by simp [seekL]]; rfl) rfl (fun kk p hs => ?_)
    · rw [seekT_run]; exact hrun
    · obtain ⟨⟨i, hh⟩, hp⟩ := p
      have hp' : i ≤ x.length := hp
      have hlen : (dInts (x ++ [k])).length = (dInts (seekL x (i, hh))).length := by rw [dInts_len, dInts_len, seekL_len hp]; simp
      have hlt : i < (dInts (seekL x (i, hh))).length := by rw [dInts_len, seekL_len hp]; omega
      have fin : some (x.take i ++ k :: x.drop i) = some (insR k x) → (dInts (seekL x (i, hh))).set i (cInt k) = dInts (insR k x) := fun h => by
        rw [dInts_set, ← Option.some.inj h]
        exact congrArg dInts (seekL_set (p := (i, hh)) hp)
      have hlen2 : (dInts (x ++ [k])).length = (dInts (insR k x)).length := by rw [dInts_len, dInts_len, insR_len]; simp
      cases i with
      | zero =>
        have hs : some (k :: x) = some (insR k x) := hs
        refine sq ?_
        refine rg pg ?_
        refine gf rfl ?_
        refine gf rfl ?_
        refine gf rfl ?_
        refine gf rfl ?_
        refine gf rfl ?_
        refine gf rfl ?_
        refine gf rfl ?_
        refine cdF rfl ?_
        refine ex ?_
        refine rl pg ?_
        refine Ask.mk ⟨⟨hlen, rfl⟩, Int.natCast_nonneg _, hlt⟩ ?_
        refine Ask.mk ⟨hlen, rfl⟩ (AStW.mk (dInts_get (seekL_at (p := (0, hh)) hp)) rfl rfl (fin hs) ?_)
        exact (weak_set 3 rfl (congrArg (fun n => V.arr n 200) hlen2)).trans (weak_co rfl rfl rfl)
      | succ i =>
        have hj : IntKind.i64.wrap ((((i + 1 : Nat)) : Int) - 1) = (i : Int) := by
          rw [i64_id (by omega) (by omega)]; omega
        by_cases hg : x.getD i 0 > k
        · have hs : kk ⟨(i, x.getD i 0), Nat.le_of_succ_le hp⟩ = some (insR k x) := by
            have hs := hs
            simp only [seekT, hg, if_true] at hs
            exact hs
          have hset : (dInts (seekL x (i + 1, hh))).set (i + 1) (cInt (x.getD i 0)) = dInts (seekL x (i, x.getD i 0)) := by
            rw [dInts_set]
            refine congrArg dInts ?_
            rw [seekL_set (p := (i + 1, hh)) hp]
            exact seekL_next hp'
          refine sq ?_
          refine rg pg ?_
          refine gl (by simp) ?_
          refine gl rfl ?_
          refine gl rfl ?_
          refine gl rfl ?_
          refine Ask.mk ⟨⟨hlen, rfl⟩, (by rw [hj]; omega), (by rw [hj]; exact Nat.lt_of_succ_lt hlt)⟩ ?_
          refine gl rfl ?_
          refine Ask.mk ⟨hlen, rfl⟩ (ALdW.mk (el := [.int .i64 (x.getD i 0)]) (by rw [hj]; exact dInts_get (seekL_get hp')) ?_)
          refine gl rfl ?_
          refine gl rfl ?_
          refine cdE (v := true) (show decide (x.getD i 0 > k) = true from decide_eq_true hg) rfl ?_
          refine sk ?_
          refine bk ?_
          refine rg pg ?_
          refine Ask.mk ⟨⟨hlen, rfl⟩, (by rw [hj]; omega), (by rw [hj]; exact Nat.lt_of_succ_lt hlt)⟩ ?_
          refine Ask.mk ⟨hlen, rfl⟩ (ALdW.mk (el := [.int .i64 (x.getD i 0)]) (by rw [hj]; exact dInts_get (seekL_get hp')) ?_)
          refine Ask.mk ⟨⟨hlen, rfl⟩, Int.natCast_nonneg _, hlt⟩ ?_
          refine Ask.mk ⟨hlen, rfl⟩ (AStW.mk (dInts_get (seekL_at (p := (i + 1, hh)) hp)) rfl rfl hset ?_)
          refine rl pg ?_
          exact ⟨⟨(i, x.getD i 0), Nat.le_of_succ_le hp⟩, hs, (weak_set 5 rfl (congrArg (fun n => V.d (.int .i64 n)) hj)).trans (weak_co rfl rfl rfl)⟩
        · have hs : some (x.take (i + 1) ++ k :: x.drop (i + 1)) = some (insR k x) := by
            have hs := hs
            simp only [seekT, hg, if_false] at hs
            exact hs
          refine sq ?_
          refine rg pg ?_
          refine gl (by simp) ?_
          refine gl rfl ?_
          refine gl rfl ?_
          refine gl rfl ?_
          refine Ask.mk ⟨⟨hlen, rfl⟩, (by rw [hj]; omega), (by rw [hj]; exact Nat.lt_of_succ_lt hlt)⟩ ?_
          refine gl rfl ?_
          refine Ask.mk ⟨hlen, rfl⟩ (ALdW.mk (el := [.int .i64 (x.getD i 0)]) (by rw [hj]; exact dInts_get (seekL_get hp')) ?_)
          refine gl rfl ?_
          refine gl rfl ?_
          refine cdE (v := false) (show decide (x.getD i 0 > k) = false from decide_eq_false hg) rfl ?_
          refine ex ?_
          refine rl pg ?_
          refine Ask.mk ⟨⟨hlen, rfl⟩, Int.natCast_nonneg _, hlt⟩ ?_
          refine Ask.mk ⟨hlen, rfl⟩ (AStW.mk (dInts_get (seekL_at (p := (i + 1, hh)) hp)) rfl rfl (fin hs) ?_)
          exact (weak_set 3 rfl (congrArg (fun n => V.arr n 200) hlen2)).trans (weak_co rfl rfl rfl)
  · refine wconceal (kc := 1) 1000 rfl (gents_IB found) hms hb (fun p hp => ?_) ?_
    · obtain ⟨q, _, rfl⟩ := List.mem_map.1 hp
      rfl
    refine rg pg ?_
    refine rt ?_
    exact enz (wz ⟨[(2, .arr (dInts r).length 200)], [(1000, some (.map ⟨1, dMap kI vB found⟩)), (200, some (.arr (dInts r) 1 3))], [1000, 200]⟩ 200 1 rfl rfl rfl rfl rfl) rfl rfl
end Go.AM

/-
  The walk, reckoned: operations, regions.
-/
import Derived.Test.YtdbgmmeenljnoaaGreatDoorAnB
set_option linter.unusedVariables false
set_option linter.unusedSimpArgs false
namespace Go.AM
open Go Go.RowKit

abbrev Kt := FP → List (Nat × V) → List (Nat × Option O) → List Nat → Prop
def putW (all : Array Oper) (N : Nat) (o : Oper) (ρ : List (Nat × V)) (σ : List (Nat × Option O)) (ls : List Nat) (rl : List Nat) (v : V) (K : Kt) : Prop :=
  match dstOk o N with
  | true => fV v fun v => putK ρ o.dst v fun ρ => K ⟨o.looksAt all, o.dst, rl, []⟩ ρ σ ls
  | false => False
def newW (all : Array Oper) (N : Nat) (o : Oper) (ρ : List (Nat × V)) (σ : List (Nat × Option O)) (ls : List Nat) (l : Nat) (x : O) (v : V) (K : Kt) : Prop :=
  match dstOk o N, memB l ls with
  | true, false => fO x fun x => putK ρ o.dst v fun ρ => K ⟨o.looksAt all, o.dst, [], [l]⟩ ρ ((l, some x) :: σ) (l :: ls)
  | _, _ => False
def sliceOf : V → Option (List (List D))
  | .d (.slice es) => some es
  | .d .nils => some []
  | .full es => some es
  | .own es _ => some es
  | _ => none
theorem sliceOf_is {v : V} {es : List (List D)} (h : sliceOf v = some es) : IsSlice v es := by
  cases v <;> simp only [sliceOf] at h
  case d x => cases x <;> simp only [Option.some.injEq] at h <;> first | (subst h; constructor) | cases h
  case full es' => injection h with h; subst h; constructor
  case own es' l => injection h with h; subst h; constructor
  all_goals cases h
def pickV (b : Bool) (x y : V) : V := match x, y with
  | .d (.bool p), .d (.bool q) => .d (.bool (cond b p q))
  | .d (.int k p), .d (.int k' q) => match k == k' with
    | true => .d (.int k (cond b p q))
    | false => cond b x y
  | x, y => cond b x y
theorem pickV_eq (b : Bool) (x y : V) : pickV b x y = cond b x y := by
  unfold pickV
  split
  · cases b <;> rfl
  · split
    · rename_i e; have := eq_of_beq e; subst this; cases b <;> rfl
    · rfl
  · rfl
def intBin (op : BinOp) (k : IntKind) (x y : Int) (K : D → Prop) : Prop := match op with
  | .add => K (.int k (k.wrap (x + y)))
  | .sub => K (.int k (k.wrap (x - y)))
  | .mul => K (.int k (k.wrap (x * y)))
  | .quo => Ask (y ≠ 0) (K (.int k (k.wrap (x.tdiv y))))
  | .rem => Ask (y ≠ 0) (K (.int k (x.tmod y)))
  | .eql => K (.bool (x == y))
  | .neq => K (.bool (x != y))
  | .lss => K (.bool (decide (x < y)))
  | .leq => K (.bool (decide (x ≤ y)))
  | .gtr => K (.bool (decide (x > y)))
  | .geq => K (.bool (decide (x ≥ y)))
  | _ => False
theorem intBin_op {op : BinOp} {k : IntKind} {x y : Int} {K : D → Prop} (h : intBin op k x y K) : ∃ r, IntOp op k x y r ∧ K r := by
  cases op <;> simp only [intBin] at h
  case add => exact ⟨_, .add, h⟩
  case sub => exact ⟨_, .sub, h⟩
  case mul => exact ⟨_, .mul, h⟩
  case quo => exact ⟨_, .quo h.a, h.k⟩
  case rem => exact ⟨_, .rem h.a, h.k⟩
  case eql => exact ⟨_, .eql, h⟩
  case neq => exact ⟨_, .neq, h⟩
  case lss => exact ⟨_, .lss, h⟩
  case leq => exact ⟨_, .leq, h⟩
  case gtr => exact ⟨_, .gtr, h⟩
  case geq => exact ⟨_, .geq, h⟩
  all_goals exact h.elim
def lookW (σ : List (Nat × Option O)) (l : Nat) (K : List V → TypeId → Prop) : Prop := match lo σ l with
  | some (.cells vs t) => K vs t
  | _ => False
theorem lookW_some {σ : List (Nat × Option O)} {l : Nat} {K : List V → TypeId → Prop} (h : lookW σ l K) : ∃ vs t, lookO σ l = some (.cells vs t) ∧ K vs t := by
  unfold lookW at h
  split at h
  · rename_i vs t e; exact ⟨vs, t, by rw [← lo_eq]; exact e, h⟩
  · exact h.elim
def tyW (T : TT) (t : Nat) (K : TI → Prop) : Prop := match T.get t with
  | some i => K i
  | none => False
theorem tyW_some {T : TT} {t : Nat} {K : TI → Prop} (h : tyW T t K) : ∃ i, T.get t = some i ∧ K i := by
  unfold tyW at h
  split at h
  · rename_i i e; exact ⟨i, e, h⟩
  · exact h.elim
def kdW (i : TI) (n : Nat) (K : Prop) : Prop := match Nat.beq i.kd n with
  | true => K
  | false => False
theorem kdW_some {i : TI} {n : Nat} {K : Prop} (h : kdW i n K) : i.kd = n ∧ K := by
  unfold kdW at h
  split at h
  · rename_i e; exact ⟨Nat.eq_of_beq_eq_true e, h⟩
  · exact h.elim
def valW (G : Gl) (ρ : List (Nat × V)) (x : Operand) (K : V → Prop) : Prop := match opV G ρ x with
  | some v => K v
  | none => False
theorem valW_some {G : Gl} {ρ : List (Nat × V)} {x : Operand} {K : V → Prop} (h : valW G ρ x K) : ∃ v, opd G (look ρ) x = some v ∧ K v := by
  unfold valW at h
  split at h
  · rename_i v e; exact ⟨v, by rw [← opV_eq]; exact e, h⟩
  · exact h.elim
def intW (G : Gl) (ρ : List (Nat × V)) (x : Operand) (K : IntKind → Int → Prop)   : Prop := valW G ρ x fun v => match v with
  | .d (.int k i) => K k i
  | _ => False
theorem intW_some {G : Gl} {ρ : List (Nat × V)} {x : Operand} {K : IntKind → Int → Prop} (h : intW G ρ x K) : ∃ k i, opd G (look ρ) x = some (.d (.int k i)) ∧ K k i := by
  obtain ⟨v, h1, h2⟩ := valW_some h
  split at h2
  · exact ⟨_, _, h1, h2⟩
  · exact h2.elim
def sliW (G : Gl) (ρ : List (Nat × V)) (x : Operand) (K : V → List (List D) → Prop)   : Prop := valW G ρ x fun v => match sliceOf v with
  | some es => K v es
  | none => False
theorem sliW_some {G : Gl} {ρ : List (Nat × V)} {x : Operand} {K : V → List (List D) → Prop} (h : sliW G ρ x K) : ∃ v es, opd G (look ρ) x = some v ∧ IsSlice v es ∧ K v es := by
  obtain ⟨v, h1, h2⟩ := valW_some h
  split at h2
  · rename_i es e; exact ⟨v, es, h1, sliceOf_is e, h2⟩
  · exact h2.elim
def lenW (all : Array Oper) (T : TT) (G : Gl) (N : Nat) (o : Oper) (ρ : List (Nat × V)) (σ : List (Nat × Option O)) (ls : List Nat) (t : Nat) (x : Operand) (K : Kt) : Prop :=
  tyW T t fun i => match Nat.beq i.kd 4 with
    | true => valW G ρ x fun vx => match vx with
      | .arr m l => match lo σ l with
        | some (.arr es _ _) => Ask (m = es.length) (LenW es fun n => putW all N o ρ σ ls [l] (.d (.int .i64 n)) K)
        | _ => False
      | vx => match sliceOf vx with
        | some es => LenW es fun n => putW all N o ρ σ ls [] (.d (.int .i64 n)) K
        | none => False
    | false => match Nat.beq i.kd 7 with
      | true => valW G ρ x fun v => match v with
        | .map l => match lo σ l with
          | some (.map ⟨_, es⟩) => MLenW es fun n => putW all N o ρ σ ls [l] (.d (.int .i64 n)) K
          | _ => False
        | _ => False
      | false => kdW i 3 (valW G ρ x fun v => match v with
        | .d (.str s) => putW all N o ρ σ ls [] (.d (.int .i64 s.size)) K
        | _ => False)
def appW (all : Array Oper) (T : TT) (G : Gl) (N : Nat) (o : Oper) (ρ : List (Nat × V)) (σ : List (Nat × Option O)) (ls : List Nat) (t : Nat) (x y : Operand) (K : Kt) : Prop :=
  tyW T t fun i => kdW i 4 (valW G ρ x fun vx => sliW G ρ y fun _ ys => match o.dst with
    | none => False
    | some d => match dstOk o N with
      | false => False
      | true => match vx with
        | .own es l => match lo σ l with
          | some (.row n sz e) => Ask (n = es.length ∧ sz = i.esz ∧ e = i.elem) (AppW es ys i.esz fun zs => K ⟨o.looksAt all, o.dst, [l], [l]⟩ ((d, .own zs l) :: ρ) ((l, some (.row zs.length i.esz i.elem)) :: σ) (l :: ls))
          | _ => False
        | .full es => match memB d ls with
          | true => False
          | false => AppW es ys i.esz fun zs => K ⟨o.looksAt all, o.dst, [], [d]⟩ ((d, .own zs d) :: ρ) ((d, some (.row zs.length i.esz i.elem)) :: σ) (d :: ls)
        | .d .nils => match memB d ls, memB (d + 50000) ls with
          | true, _ => False
          | false, false => AppW [] ys i.esz fun zs => K ⟨o.looksAt all, o.dst, [], [d]⟩ ((d, .own zs d) :: ρ) ((d, some (.row zs.length i.esz i.elem)) :: σ) (d :: ls)
          | false, true => AppW [] ys i.esz fun zs => K ⟨o.looksAt all, o.dst, [], [d]⟩ ((d, .arr zs.length d) :: ρ) ((d, some (.arr zs i.esz i.elem)) :: σ) (d :: ls)
        | .arr m l => match lo σ l with
          | some (.arr es sz e) => Ask (m = es.length ∧ sz = i.esz ∧ e = i.elem) (AppW es ys i.esz fun zs => K ⟨o.looksAt all, o.dst, [l], [l]⟩ ((d, .arr zs.length l) :: ρ) ((l, some (.arr zs i.esz i.elem)) :: σ) (l :: ls))
          | _ => False
        | _ => False)
def cutW (all : Array Oper) (T : TT) (G : Gl) (N : Nat) (o : Oper) (ρ : List (Nat × V)) (σ : List (Nat × Option O)) (ls : List Nat) (t : Nat) (x : Operand) (lo hi mx : Option Operand) (K : Kt) : Prop :=
  tyW T t fun i => kdW i 4 (sliW G ρ x fun _ es => match lo, hi, mx with
    | none, none, none => Ask (∀ e ∈ es, e.length = i.esz) (putW all N o ρ σ ls [] (.d (.slice es)) K)
    | none, some h, none => intW G ρ h fun _ h => CutW es 0 h i.esz fun fs => putW all N o ρ σ ls [] (.d (.slice fs)) K
    | some l, none, none => intW G ρ l fun _ l => CutW es l es.length i.esz fun fs => putW all N o ρ σ ls [] (.d (.slice fs)) K
    | some l, some h, none => intW G ρ l fun _ l => intW G ρ h fun _ h => CutW es l h i.esz fun fs => putW all N o ρ σ ls [] (.d (.slice fs)) K
    | none, some h, some m => intW G ρ h fun _ h => intW G ρ m fun _ m => Ask (m = h) (CutW es 0 h i.esz fun fs => putW all N o ρ σ ls [] (.full fs) K)
    | _, _, _ => False)
/-- Where the parts of a struct or an array lie. -/
def plcsW (i : TI) : Option (List (Nat × Nat)) := match Nat.beq i.kd 6, Nat.beq i.kd 5 with
  | true, _ => some i.flds
  | false, true => some ((List.range i.len).map fun k => (k * i.esz, i.esz))
  | _, _ => none
def doW (P : Program) (all : Array Oper) (T : TT) (G : Gl) (N : Nat) (o : Oper) (ρ : List (Nat × V)) (σ : List (Nat × Option O)) (ls : List Nat) (K : Kt) : Prop :=
  match o.op with
  | .move x => valW G ρ x fun v => putW all N o ρ σ ls [] v K
  | .assign x => valW G ρ x fun v => putW all N o ρ σ ls [] v K
  | .pick c x y => valW G ρ c fun vc => match vc with
    | .d (.bool b) => valW G ρ x fun vx => valW G ρ y fun vy => putW all N o ρ σ ls [] (pickV b vx vy) K
    | _ => False
  | .alloc t => match o.dst with
    | some d => tyW T t fun i => match i.zero with
      | some zs => newW all N o ρ σ ls d (.cells (zs.map V.d) t) (.ptr d 0) K
      | none => False
    | none => False
  | .box t x => match o.dst with
    | some d => valW G ρ x fun v => match cellsL v with
      | some vs => newW all N o ρ σ ls d (.cells vs t) (.ptr d 0) K
      | none => False
    | none => False
  | .build t parts => tyW T t fun i => match plcsW i with | none => False | some plcs => (match i.zero with
    | none => False
    | some zs => match opVs G ρ (parts.toList.map (·.2)) with
      | none => False
      | some vals => match cellsLs vals with
        | none => False
        | some uss => match buildV plcs (zs.map V.d) ((parts.toList.map (·.1)).zip uss) with
          | none => False
          | some res => putW all N o ρ σ ls [] (.agg res) K)
  | .buildSlice t len parts => tyW T t fun i => kdW i 4 (match opVs G ρ (parts.toList.map (·.2)) with
    | none => False
    | some vals => match elemsL (plVs vals) with
      | none => False
      | some es => match (match o.dst with | some d => memB (d + 50000) ls | none => false) with
       | true => (match o.dst with
         | some d => match dstOk o N, memB d ls with
           | true, false => Ask (parts.toList.map (·.1) = List.range' 0 len ∧ Nat.ble (len * i.esz) 16777216 = true) (BsW es i.esz fun fs => K ⟨o.looksAt all, o.dst, [], [d]⟩ ((d, .arr fs.length d) :: ρ) ((d, some (.arr fs i.esz i.elem)) :: σ) (d :: ls))
           | _, _ => False
         | none => False)
       | false => Ask (parts.toList.map (·.1) = List.range' 0 len ∧ Nat.ble (len * i.esz) 16777216 = true) (BsW es i.esz fun fs => putW all N o ρ σ ls [] (.full fs) K))
  | .load t x => tyW T t fun i => valW G ρ x fun v => match v with
    | .ptr l off => lookW σ l fun vs tc => match i.agg with
      | true => match Nat.beq ((vs.drop off).take i.size).length i.size with
        | true => putW all N o ρ σ ls [l] (.agg ((vs.drop off).take i.size)) K
        | false => False
      | false => match nth vs off with
        | some u => putW all N o ρ σ ls [l] u K
        | none => False
    | .cptr cs => match i.agg with
      | true => match Nat.beq (cs.take i.size).length i.size with
        | true => putW all N o ρ σ ls [] (.agg ((cs.take i.size).map V.d)) K
        | false => False
      | false => match nth cs 0 with
        | some u => putW all N o ρ σ ls [] (.d u) K
        | none => False
    | .aptr m l sz j off => match lo σ l with
      | some (.arr es sz' _) => Ask (m = es.length ∧ sz = sz') (ALdW es j fun el => fDs el fun el => match i.agg with
        | true => match Nat.beq ((el.drop off).take i.size).length i.size with
          | true => putW all N o ρ σ ls [l] (.agg (((el.drop off).take i.size).map V.d)) K
          | false => False
        | false => match nth el off with
          | some u => putW all N o ρ σ ls [l] (.d u) K
          | none => False)
      | _ => False
    | _ => False
  | .store t x y => tyW T t fun i => match o.dst with
    | some _ => False
    | none => valW G ρ x fun vx => match vx with
      | .ptr l off => valW G ρ y fun v => match cellsL v with
        | none => False
        | some us => lookW σ l fun vs tc => match Nat.beq us.length i.size, Nat.ble (off + i.size) vs.length with
          | true, true => fO (.cells (spl vs off us) tc) fun x => K ⟨o.looksAt all, none, [l], [l]⟩ ρ ((l, some x) :: σ) (l :: ls)
          | _, _ => False
      | .aptr m l sz j off => valW G ρ y fun v => match elemD (plV v) with
        | none => False
        | some us => match lo σ l with
          | some (.arr es sz' e) => Ask (m = es.length ∧ sz = sz') (AStW es j off i.size sz' us fun fs => K ⟨o.looksAt all, none, [l], [l]⟩ ρ ((l, some (.arr fs sz' e)) :: σ) (l :: ls))
          | _ => False
      | _ => False
  | .nilCheck x => valW G ρ x fun v => match v with
    | .ptr l off => putW all N o ρ σ ls [] (.ptr l off) K
    | .cptr cs => putW all N o ρ σ ls [] (.cptr cs) K
    | .aptr m l sz j off => match lo σ l with
      | some (.arr es sz' _) => Ask (m = es.length ∧ sz = sz') (putW all N o ρ σ ls [l] (.aptr m l sz j off) K)
      | _ => False
    | _ => False
  | .fieldAddr s x n => tyW T s fun i => kdW i 6 (match nth i.flds n with
    | none => False
    | some (fo, sz) => match Nat.blt 0 sz with
      | false => False
      | true => valW G ρ x fun v => match v with
        | .ptr l off => putW all N o ρ σ ls [] (.ptr l (off + fo)) K
        | .cptr cs => match Nat.ble fo cs.length with
          | true => putW all N o ρ σ ls [] (.cptr (cs.drop fo)) K
          | false => False
        | .aptr m l sz j off => match lo σ l with
          | some (.arr es sz' _) => Ask (m = es.length ∧ sz = sz') (putW all N o ρ σ ls [l] (.aptr m l sz j (off + fo)) K)
          | _ => False
        | _ => False)
  | .field t x n => tyW T t fun i => kdW i 6 (match nth i.flds n, nth i.fty n with
    | some (fo, sz), some ft => match Nat.blt 0 sz with
      | false => False
      | true => tyW T ft fun j => valW G ρ x fun v => match v with
        | .agg cs => match j.agg with
          | true => match Nat.beq ((cs.drop fo).take j.size).length j.size with
            | true => putW all N o ρ σ ls [] (.agg ((cs.drop fo).take j.size)) K
            | false => False
          | false => match nth cs fo with
            | some u => putW all N o ρ σ ls [] u K
            | none => False
        | _ => False
    | _, _ => False)
  | .indexAddr t x y => tyW T t fun i => match Nat.beq i.kd 4 with
    | true => valW G ρ x fun vx => match vx with
      | .arr m l => match lo σ l with
        | some (.arr es sz _) => intW G ρ y fun _ j => Ask ((m = es.length ∧ sz = i.esz) ∧ 0 ≤ j ∧ j.toNat < es.length) (putW all N o ρ σ ls [l] (.aptr m l i.esz j.toNat 0) K)
        | _ => False
      | vx => match sliceOf vx with
        | some es => intW G ρ y fun _ j => IdxW es j i.esz fun el => putW all N o ρ σ ls [] (.cptr el) K
        | none => False
    | false => kdW i 5 (intW G ρ y fun _ j => valW G ρ x fun v => match v with
      | .ptr l off => PIdxW j i.len fun m => putW all N o ρ σ ls [] (.ptr l (off + m * i.esz)) K
      | .cptr cs => ArrW cs j i.len i.esz fun ds => putW all N o ρ σ ls [] (.cptr ds) K
      | _ => False)
  | .binOp op tx x y _ => valW G ρ x fun vx => valW G ρ y fun vy => match vx, vy with
    | .d (.int k a), .d (.int k' b) => match k == k' with
      | true => intBin op k a b fun r => putW all N o ρ σ ls [] (.d r) K
      | false => False
    | .d (.bool a), .d (.bool b) => tyW T tx fun i => kdW i 2 (match op with
      | .eql => putW all N o ρ σ ls [] (.d (.bool (a == b))) K
      | .neq => putW all N o ρ σ ls [] (.d (.bool (a != b))) K
      | _ => False)
    | _, .d .nilFunc => tyW T tx fun i => kdW i 8 (match isNilF vx with
      | none => False
      | some b => match op with
        | .eql => putW all N o ρ σ ls [] (.d (.bool b)) K
        | .neq => putW all N o ρ σ ls [] (.d (.bool (!b))) K
        | _ => False)
    | _, _ => False
  | .unOp op tx x => valW G ρ x fun v => match op, v with
    | .not, .d (.bool b) => putW all N o ρ σ ls [] (.d (.bool (!b))) K
    | .neg, .d (.int k a) => putW all N o ρ σ ls [] (.d (.int k (k.wrap (0 - a)))) K
    | _, _ => False
  | .convert s d x => tyW T d fun i => tyW T s fun j => kdW i 1 (kdW j 1 (intW G ρ x fun _ a => putW all N o ρ σ ls [] (.d (.int i.ik (i.ik.wrap a))) K))
  | .extract x n => valW G ρ x fun v => match v with
    | .tup vs => match nth vs n with
      | some u => putW all N o ρ σ ls [] u K
      | none => False
    | _ => False
  | .makeFunc (.func f) first caps => match first.toList with
    | [] => match opVs G ρ caps.toList with
      | some vs => putW all N o ρ σ ls [] (.clo f vs) K
      | none => False
    | _ => False
  | .slice t x lo hi mx => cutW all T G N o ρ σ ls t x lo hi mx K
  | .makeMap t none => match o.dst with
    | some d => tyW T t fun i => kdW i 7 (newW all N o ρ σ ls d (.map ⟨i.eby, []⟩) (.map d) K)
    | none => False
  | .mapUpdate t x y z => tyW T t fun i => kdW i 7 (match o.dst with
    | some _ => False
    | none => valW G ρ x fun vx => match vx with
      | .map l => valW G ρ y fun vy => match vy with
        | .d k => valW G ρ z fun v => match lo σ l with
          | some (.map ⟨kc, es⟩) => match Nat.beq kc i.eby, kcOk kc k, (plV v).on [] with
            | true, true, true => MSetW es k (plV v) fun es' => K ⟨o.looksAt all, none, [l], [l]⟩ ρ ((l, some (.map ⟨kc, es'⟩)) :: σ) (l :: ls)
            | _, _, _ => False
          | _ => False
        | _ => False
      | _ => False)
  | .lookup t x y c => tyW T t fun i => kdW i 7 (valW G ρ x fun vx => match vx with
    | .map l => valW G ρ y fun vy => match vy with
      | .d k => match lo σ l, i.mz with
        | some (.map ⟨kc, es⟩), some z => match Nat.beq kc i.eby, kcOk kc k with
          | true, true => MGetW es k z fun u b => match c with
            | true => putW all N o ρ σ ls [l] (.tup [u, .d (.bool b)]) K
            | false => putW all N o ρ σ ls [l] u K
          | _, _ => False
        | _, _ => False
      | _ => False
    | _ => False)
  | .range t x => match o.dst with
    | some d => tyW T t fun i => kdW i 7 (valW G ρ x fun v => match v with
      | .map l => match lo σ l with
        | some (.raw (some bm) .map (.map ms clock)) => match dstOk o N, memB d ls, Nat.beq l d with
          | true, false, false => K ⟨o.looksAt all, o.dst, [l], [d]⟩ ((d, .ptr d 0) :: ρ) ((d, some (.raw none .cells (.mapIter (some bm) clock #[] clock))) :: σ) (d :: ls)
          | _, _, _ => False
        | _ => False
      | _ => False)
    | none => False
  | .entry x => valW G ρ x fun v => match v with
    | .ptr L 0 => EntW σ L fun l k n => putW all N o ρ σ ls [L, l] (.tup [.d (.int k n), .any]) K
    | _ => False
  | .call c => match c.callee with
    | .value fo => match dstOk o N, opVs G ρ c.args.toList with
      | true, some vals => valW G ρ fo fun v => match v with
        | .clo f caps => CallW P G f vals caps ρ σ ls o.dst fun rl wl ρ σ ls => K ⟨o.looksAt all, o.dst, rl, wl⟩ ρ σ ls
        | .d (.fn f) => CallW P G f vals [] ρ σ ls o.dst fun rl wl ρ σ ls => K ⟨o.looksAt all, o.dst, rl, wl⟩ ρ σ ls
        | _ => False
      | _, _ => False
    | .builtin .len => match c.args.toList, c.argTypes.toList with
      | [x], [t] => lenW all T G N o ρ σ ls t x K
      | _, _ => False
    | .builtin .append => match c.args.toList, c.argTypes.toList with
      | [x, y], [t, t'] => match Nat.beq t t' with
        | true => appW all T G N o ρ σ ls t x y K
        | false => False
      | _, _ => False
    | _ => False
  | _ => False

section
variable {P : Program} {C : Ctx} {T : TT} {all : Array Oper} {rest : List Oper} {ρ : List (Nat × V)} {σ : List (Nat × Option O)} {ls : List Nat} {K : List FP → A → Prop} {Kk : Kt}

theorem putW_ok {o : Oper} {rl : List Nat} {v : V} (h : putW all C.N o ρ σ ls rl v Kk) : dstOk o C.N = true ∧ Kk ⟨o.looksAt all, o.dst, rl, []⟩ (putL ρ o.dst v) σ ls := by
  unfold putW at h
  split at h
  · rename_i e; exact ⟨e, putK_iff.1 (fV_iff.1 h)⟩
  · exact h.elim
theorem newW_ok {o : Oper} {l : Nat} {x : O} {v : V} (h : newW all C.N o ρ σ ls l x v Kk) : dstOk o C.N = true ∧ memB l ls = false ∧ Kk ⟨o.looksAt all, o.dst, [], [l]⟩ (putL ρ o.dst v) ((l, some x) :: σ) (l :: ls) := by
  unfold newW at h
  split at h
  · rename_i e1 e2; exact ⟨e1, e2, putK_iff.1 (fO_iff.1 h)⟩
  · exact h.elim
theorem t_nilCheck_c {dst : Option Nat} {x : Operand} {ty pos af gd} {cs : List D} (hx : opd C.G (look ρ) x = some (.cptr cs))
    (hg : guardIs all (look ρ) ⟨dst, .nilCheck x, ty, pos, af, gd⟩ true) (hN : dstOk ⟨dst, .nilCheck x, ty, pos, af, gd⟩ C.N = true)
    (h : Tr P C all rest ⟨putL ρ dst (.cptr cs), σ, ls⟩ (fun fs x' => K (⟨Oper.looksAt all ⟨dst, .nilCheck x, ty, pos, af, gd⟩, dst, [], []⟩ :: fs) x')) : Tr P C all (⟨dst, .nilCheck x, ty, pos, af, gd⟩ :: rest) ⟨ρ, σ, ls⟩ K := by
  refine tr_one rfl hx hg hN (fun M ι a w _ h1 => ?_) h
  have h1' := h1
  simp only [RepV] at h1
  obtain ⟨ad, e4, _⟩ := h1
  exact ⟨a.eval x, by simp [execOp, e4], h1'⟩
theorem RepRow.take {M : Mem} {ds : List D} {ad : Addr} (hs : ad.spot = none) (n : Nat) (h : RepRow M ds ad) : RepRow M (ds.take n) ad := by
  rw [← List.take_append_drop n ds, RepRow.app hs] at h
  exact h.1
theorem VLe.cptr_take {cs : List D} (n : Nat) : VLe (.cptr cs) (.cptr (cs.take n)) := fun M ι v h => by
  simp only [RepV] at h ⊢
  obtain ⟨ad, h1, h2, h3⟩ := h
  exact ⟨ad, h1, h2, RepRow.take h2 n h3⟩
theorem t_indexArr_w {dst : Option Nat} {t : TypeId} {x y : Operand} {ty pos af gd} {cs ds : List D} {len e n : Nat} {k : IntKind} {i : Int} (ht : Arr P t len e n) (hx : opd C.G (look ρ) x = some (.cptr cs)) (hy : opd C.G (look ρ) y = some (.d (.int k i)))
    (h0 : 0 ≤ i) (hi : i < len) (hd : (cs.drop (i.toNat * n)).take n = ds) (hl : ds.length = n)
    (hg : guardIs all (look ρ) ⟨dst, .indexAddr t x y, ty, pos, af, gd⟩ true) (hN : dstOk ⟨dst, .indexAddr t x y, ty, pos, af, gd⟩ C.N = true)
    (h : Tr P C all rest ⟨putL ρ dst (.cptr ds), σ, ls⟩ (fun fs x' => K (⟨Oper.looksAt all ⟨dst, .indexAddr t x y, ty, pos, af, gd⟩, dst, [], []⟩ :: fs) x')) : Tr P C all (⟨dst, .indexAddr t x y, ty, pos, af, gd⟩ :: rest) ⟨ρ, σ, ls⟩ K := by
  refine tr_two rfl hx hy hg hN (fun M ι a w _ hr1 hr2 => ?_) h
  simp only [RepV, RepD] at hr1 hr2
  obtain ⟨ad, e1, e2, e3⟩ := hr1
  obtain ⟨inf, i1, i2⟩ := ht.info
  refine ⟨.pointer (some (ad.add (i.toNat * n))), ?_, ?_⟩
  · simp [execOp, Instr.indexAt, Instr.sureAddr, asIntOf, hr2, e1, run_underlying ht.und, h0, hi, sizeOf, typeInfo, i1, i2]
  · simp only [RepV]
    refine ⟨_, rfl, add_spot e2 _, ?_⟩
    subst hd
    by_cases hn : i.toNat * n ≤ cs.length
    · rw [← List.take_append_drop (i.toNat * n) cs, RepRow.app e2] at e3
      have := e3.2
      rw [List.length_take, Nat.min_eq_left hn] at this
      exact RepRow.take (add_spot e2 _) n this
    · rw [List.drop_of_length_le (by omega)]
      simp [RepRow]

theorem run_part {t off : Nat} {cs : Array Value} {d : TypeDesc} (hd : P.underlying t = some d) {w : World} : (part t cs off).run P w = if aggD d then (match P.info? t with | some i => .ok (.agg (cs.extract off (off + i.size))) w | none => (part t cs off).run P w) else match cs[off]? with | some v => .ok v w | none => (part t cs off).run P w := by
  have hagg : (isAgg t).run P w = .ok (aggD d) w := by
    simp only [isAgg, underlying, Sem.run_bind, run_program, Result.andThen_ok, hd, Sem.run_pure]
    cases d <;> simp_all [aggD]
  cases ha : aggD d with
  | true =>
    rw [ha] at hagg
    simp only [if_true]
    split
    · rename_i i hi
      simp [part, hagg, sizeOf, typeInfo, hi]
    · rfl
  | false =>
    rw [ha] at hagg
    simp only [Bool.false_eq_true, if_false]
    split
    · rename_i v hv
      simp [part, hagg, hv]
    · rfl
theorem t_fieldN {dst : Option Nat} {s : TypeId} {x : Operand} {n : Nat} {ty pos af gd} {cs us : List V} {fo ft k : Nat} {fs : Array Field} (hf : Fld P s n fo) (hs : P.underlying s = some (.struct fs)) (hft : (fs.toList.map (·.type))[n]? = some ft) (ht : Ty P ft k true) (hx : opd C.G (look ρ) x = some (.agg cs)) (hv : (cs.drop fo).take k = us) (hl : us.length = k)
    (hg : guardIs all (look ρ) ⟨dst, .field s x n, ty, pos, af, gd⟩ true) (hN : dstOk ⟨dst, .field s x n, ty, pos, af, gd⟩ C.N = true)
    (h : Tr P C all rest ⟨putL ρ dst (.agg us), σ, ls⟩ (fun fs x' => K (⟨Oper.looksAt all ⟨dst, .field s x n, ty, pos, af, gd⟩, dst, [], []⟩ :: fs) x')) : Tr P C all (⟨dst, .field s x n, ty, pos, af, gd⟩ :: rest) ⟨ρ, σ, ls⟩ K := by
  obtain ⟨fs', f, j, h1, h2, h3, h4, h5⟩ := hf.out
  rw [hs] at h1; injection h1 with h1; injection h1 with h1; subst h1
  have hfty : f.type = ft := by
    rw [List.getElem?_map] at hft
    rw [← Array.getElem?_toList] at h2
    rw [h2] at hft
    simpa using hft
  subst hfty
  refine tr_one rfl hx hg hN (fun M ι a w _ hr => ?_) h
  simp only [RepV] at hr
  obtain ⟨vs, e1, e2, e3⟩ := hr
  obtain ⟨d, u1, u2⟩ := ht.und
  obtain ⟨i, u3, u4⟩ := ht.info
  refine ⟨.agg (vs.toArray.extract fo (fo + k)), ?_, ?_⟩
  · have := run_part (P := P) (off := fo) (cs := vs.toArray) u1 (w := w)
    rw [u2, u3] at this
    simp only [if_true, u4] at this
    simp only [execOp, e1, Instr.field, underlying, Sem.run_bind, run_program, Result.andThen_ok, hs, Sem.run_pure, h2, asAgg, h3, this]
  · simp only [RepV]
    refine ⟨(vs.drop fo).take k, congrArg Value.agg (by apply Array.ext'; simp [Array.toList_extract, List.take_drop]), ?_, fun x hx => e3 x (List.mem_of_mem_drop (List.mem_of_mem_take hx))⟩
    rw [← hv]; exact (e2.drop fo).take k
theorem t_field1 {dst : Option Nat} {s : TypeId} {x : Operand} {n : Nat} {ty pos af gd} {cs : List V} {u : V} {fo ft k : Nat} {fs : Array Field} (hf : Fld P s n fo) (hs : P.underlying s = some (.struct fs)) (hft : (fs.toList.map (·.type))[n]? = some ft) (ht : Ty P ft k false) (hx : opd C.G (look ρ) x = some (.agg cs)) (hv : cs[fo]? = some u)
    (hg : guardIs all (look ρ) ⟨dst, .field s x n, ty, pos, af, gd⟩ true) (hN : dstOk ⟨dst, .field s x n, ty, pos, af, gd⟩ C.N = true)
    (h : Tr P C all rest ⟨putL ρ dst u, σ, ls⟩ (fun fs x' => K (⟨Oper.looksAt all ⟨dst, .field s x n, ty, pos, af, gd⟩, dst, [], []⟩ :: fs) x')) : Tr P C all (⟨dst, .field s x n, ty, pos, af, gd⟩ :: rest) ⟨ρ, σ, ls⟩ K := by
  obtain ⟨fs', f, j, h1, h2, h3, h4, h5⟩ := hf.out
  rw [hs] at h1; injection h1 with h1; injection h1 with h1; subst h1
  have hfty : f.type = ft := by
    rw [List.getElem?_map] at hft
    rw [← Array.getElem?_toList] at h2
    rw [h2] at hft
    simpa using hft
  subst hfty
  refine tr_one rfl hx hg hN (fun M ι a w _ hr => ?_) h
  simp only [RepV] at hr
  obtain ⟨vs, e1, e2, e3⟩ := hr
  obtain ⟨d, u1, u2⟩ := ht.und
  obtain ⟨v, k1, k2⟩ := e2.get hv
  refine ⟨v, ?_, k2⟩
  have := run_part (P := P) (off := fo) (cs := vs.toArray) u1 (w := w)
  rw [u2] at this
  simp only [Bool.false_eq_true, if_false, List.getElem?_toArray, k1] at this
  simp only [execOp, e1, Instr.field, underlying, Sem.run_bind, run_program, Result.andThen_ok, hs, Sem.run_pure, h2, asAgg, h3, this]

/-- An operation that is taken. -/
theorem doW_ok (hT : TOk P T) {o : Oper} (hg : guardIs all (look ρ) o true) (h : doW P all T C.G C.N o ρ σ ls Kk) (hK : ∀ f a b c, Kk f a b c → Tr P C all rest ⟨a, b, c⟩ (fun fs y => K (f :: fs) y)) : Tr P C all (o :: rest) ⟨ρ, σ, ls⟩ K := by
  obtain ⟨dst, op, ty, pos, af, gd⟩ := o
  cases op <;> simp only [doW] at h
  case move x =>
    obtain ⟨v, h1, h2⟩ := valW_some h
    obtain ⟨h3, h4⟩ := putW_ok h2
    exact t_move h1 hg h3 (hK _ _ _ _ h4)
  case assign x =>
    obtain ⟨v, h1, h2⟩ := valW_some h
    obtain ⟨h3, h4⟩ := putW_ok h2
    exact t_assign h1 hg h3 (hK _ _ _ _ h4)
  case pick c x y =>
    obtain ⟨vc, h1, h2⟩ := valW_some h
    split at h2
    · rename_i b
      obtain ⟨vx, h3, h4⟩ := valW_some h2
      obtain ⟨vy, h5, h6⟩ := valW_some h4
      obtain ⟨h7, h8⟩ := putW_ok h6
      have := hK _ _ _ _ h8
      rw [pickV_eq] at this
      cases b with
      | true => exact t_pick_t h1 h3 h5 hg h7 this
      | false => exact t_pick_f h1 h3 h5 hg h7 this
    · exact h2.elim
  case alloc t =>
    split at h
    · rename_i _ d
      obtain ⟨i, h1, h2⟩ := tyW_some h
      split at h2
      · rename_i zs hz
        obtain ⟨h3, h4, h5⟩ := newW_ok h2
        exact t_alloc ((hT _ _ h1).zero _ hz) rfl hg h3 h4 (hK _ _ _ _ h5)
      · exact h2.elim
    · exact h.elim
  case box t x =>
    split at h
    · rename_i _ d
      obtain ⟨v, h1, h2⟩ := valW_some h
      split at h2
      · rename_i vs hv
        obtain ⟨h3, h4, h5⟩ := newW_ok h2
        exact s_box d h1 hv hg h3 h4 (hK _ _ _ _ h5)
      · exact h2.elim
    · exact h.elim
  case build t parts =>
    obtain ⟨i, h1, h2⟩ := tyW_some h
    split at h2
    · exact h2.elim
    rename_i plcs hpl
    split at h2
    · exact h2.elim
    · rename_i zs hz
      split at h2
      · exact h2.elim
      · rename_i vals hv
        split at h2
        · exact h2.elim
        · rename_i uss hu
          split at h2
          · exact h2.elim
          · rename_i res hr
            obtain ⟨h3, h4⟩ := putW_ok h2
            unfold plcsW at hpl
            split at hpl
            · injection hpl with hpl; subst hpl
              exact t_build ((hT _ _ h1).zero _ hz) ((hT _ _ h1).plc (Nat.eq_of_beq_eq_true (by assumption))) (opVs_some hv) (CellsAll.ofL hu) hr hg h3 (hK _ _ _ _ h4)
            · injection hpl with hpl; subst hpl
              exact t_build_arr ((hT _ _ h1).zero _ hz) ((hT _ _ h1).arr (Nat.eq_of_beq_eq_true (by assumption))) (opVs_some hv) (CellsAll.ofL hu) hr hg h3 (hK _ _ _ _ h4)
            · cases hpl
  case buildSlice t len parts =>
    obtain ⟨i, h1, h2⟩ := tyW_some h
    obtain ⟨hk, h2⟩ := kdW_some h2
    split at h2
    · exact h2.elim
    · rename_i vals hv
      split at h2
      · exact h2.elim
      · rename_i es he
        have hel := Elems.ofL he
        obtain ⟨hs, _, _⟩ := (hT _ _ h1).sli hk
        -- the elements, but not as data alone
        have key : ∀ {vs us : List V} {es : List (List D)}, VLes vs us → Elems us es → Elems vs es := by
          intro vs us es hle
          induction hle generalizing es with
          | nil => intro h; exact h
          | cons h1 _ ih =>
            intro h
            cases h with
            | cons h2 h3 => exact .cons ⟨fun M ι v hv => h2.rep M ι v (h1 M ι v hv)⟩ (ih h3)
        split at h2
        · split at h2
          · rename_i d
            split at h2
            · rename_i e1 e2
              obtain ⟨⟨h3, h4⟩, ⟨rfl, hn, h5⟩⟩ := h2
              exact t_buildSlice_arr hs (opVs_some hv) (key (plVs_le _) hel) hn h3 h4 hg e1 e2 (hK _ _ _ _ h5)
            · exact h2.elim
          · exact h2.elim
        · obtain ⟨⟨h3, h4⟩, ⟨rfl, hn, h5⟩⟩ := h2
          obtain ⟨h6, h7⟩ := putW_ok h5
          exact t_buildSlice hs (opVs_some hv) (key (plVs_le _) hel) hn h3 h4 hg h6 (hK _ _ _ _ h7)
  case load t x =>
    obtain ⟨i, h1, h2⟩ := tyW_some h
    obtain ⟨v, h3, h4⟩ := valW_some h2
    have hty := (hT _ _ h1).ty
    split at h4
    · rename_i l off
      obtain ⟨vs, tc, h5, h6⟩ := lookW_some h4
      split at h6
      · rename_i ha
        rw [ha] at hty
        split at h6
        · rename_i hl
          obtain ⟨h7, h8⟩ := putW_ok h6
          exact t_loadN hty h3 h5 rfl (Nat.eq_of_beq_eq_true hl) hg h7 (hK _ _ _ _ h8)
        · exact h6.elim
      · rename_i ha
        rw [ha] at hty
        split at h6
        · rename_i u hu
          obtain ⟨h7, h8⟩ := putW_ok h6
          exact t_load1 hty h3 h5 (by rw [← nth_eq]; exact hu) hg h7 (hK _ _ _ _ h8)
        · exact h6.elim
    · rename_i cs
      split at h4
      · rename_i ha
        rw [ha] at hty
        split at h4
        · rename_i hl
          obtain ⟨h7, h8⟩ := putW_ok h4
          exact t_loadNc hty h3 rfl (Nat.eq_of_beq_eq_true hl) hg h7 (hK _ _ _ _ h8)
        · exact h4.elim
      · rename_i ha
        rw [ha] at hty
        split at h4
        · rename_i u hu
          obtain ⟨h7, h8⟩ := putW_ok h4
          exact t_load1c hty h3 (by rw [← nth_eq]; exact hu) hg h7 (hK _ _ _ _ h8)
        · exact h4.elim
    · split at h4
      · rename_i es sz' e hes
        obtain ⟨⟨hm, hz⟩, hel, h4⟩ := h4
        subst hz
        have h4 := fDs_iff.1 h4
        split at h4
        · rename_i ha
          rw [ha] at hty
          split at h4
          · rename_i hl
            obtain ⟨h7, h8⟩ := putW_ok h4
            exact t_loadNa hty h3 hm (by rw [← lo_eq]; exact hes) hel rfl (Nat.eq_of_beq_eq_true hl) hg h7 (hK _ _ _ _ h8)
          · exact h4.elim
        · rename_i ha
          rw [ha] at hty
          split at h4
          · rename_i u hu
            obtain ⟨h7, h8⟩ := putW_ok h4
            exact t_load1a hty h3 hm (by rw [← lo_eq]; exact hes) hel (by rw [← nth_eq]; exact hu) hg h7 (hK _ _ _ _ h8)
          · exact h4.elim
      · exact h4.elim
    · exact h4.elim
  case store t x y =>
    obtain ⟨i, h1, h2⟩ := tyW_some h
    have hty := (hT _ _ h1).ty
    split at h2
    · exact h2.elim
    · obtain ⟨vx, h3, h4⟩ := valW_some h2
      split at h4
      · rename_i l off
        obtain ⟨v, h5, h6⟩ := valW_some h4
        split at h6
        · exact h6.elim
        · rename_i us hu
          obtain ⟨vs, tc, h7, h8⟩ := lookW_some h6
          split at h8
          · rename_i e1 e2
            have h9 := fO_iff.1 h8
            exact s_store hty h3 h5 hu h7 (Nat.eq_of_beq_eq_true e1) e2 rfl hg (hK _ _ _ _ h9)
          · exact h8.elim
      · obtain ⟨v, h5, h6⟩ := valW_some h4
        split at h6
        · exact h6.elim
        · rename_i us hu
          split at h6
          · rename_i es sz' e hes
            obtain ⟨⟨hm, hz⟩, hel, hf, hl, hw, h8⟩ := h6
            subst hz
            exact t_store_a hty h3 h5 ⟨fun M ι v hv => (elemD_ok hu).rep M ι v (plV_le _ M ι v hv)⟩ hm (by rw [← lo_eq]; exact hes) hel hl (Nat.le_of_ble_eq_true hf) hw hg (hK _ _ _ _ h8)
          · exact h6.elim
      · exact h4.elim
  case nilCheck x =>
    obtain ⟨v, h1, h2⟩ := valW_some h
    split at h2
    · obtain ⟨h3, h4⟩ := putW_ok h2
      exact t_nilCheck h1 hg h3 (hK _ _ _ _ h4)
    · obtain ⟨h3, h4⟩ := putW_ok h2
      exact t_nilCheck_c h1 hg h3 (hK _ _ _ _ h4)
    · split at h2
      · rename_i es sz' e hes
        obtain ⟨⟨hm, hz⟩, h2⟩ := h2
        subst hz
        obtain ⟨h3, h4⟩ := putW_ok h2
        exact t_nilCheck_a h1 hm (by rw [← lo_eq]; exact hes) hg h3 (hK _ _ _ _ h4)
      · exact h2.elim
    · exact h2.elim
  case fieldAddr s x n =>
    obtain ⟨i, h1, h2⟩ := tyW_some h
    obtain ⟨hk, h2⟩ := kdW_some h2
    split at h2
    · exact h2.elim
    · rename_i fo sz hf
      split at h2
      · exact h2.elim
      · rename_i hz
        have hfld := (hT _ _ h1).fld hk n fo sz (by rw [← nth_eq]; exact hf) (by simpa [Nat.blt_eq] using hz)
        obtain ⟨v, h3, h4⟩ := valW_some h2
        split at h4
        · obtain ⟨h5, h6⟩ := putW_ok h4
          exact t_fieldAddr hfld h3 hg h5 (hK _ _ _ _ h6)
        · split at h4
          · rename_i hb
            obtain ⟨h5, h6⟩ := putW_ok h4
            exact t_fieldAddr_c hfld h3 rfl hg h5 hb (hK _ _ _ _ h6)
          · exact h4.elim
        · split at h4
          · rename_i es sz' e hes
            obtain ⟨⟨hm, hz⟩, h4⟩ := h4
            subst hz
            obtain ⟨h5, h6⟩ := putW_ok h4
            exact t_fieldAddr_a hfld h3 hm (by rw [← lo_eq]; exact hes) hg h5 (hK _ _ _ _ h6)
          · exact h4.elim
        · exact h4.elim
  case field t x n =>
    obtain ⟨i, h1, h2⟩ := tyW_some h
    obtain ⟨hk, h2⟩ := kdW_some h2
    split at h2
    · rename_i fo sz ft hf hft
      split at h2
      · exact h2.elim
      · rename_i hz
        have hfld := (hT _ _ h1).fld hk n fo sz (by rw [← nth_eq]; exact hf) (by simpa [Nat.blt_eq] using hz)
        obtain ⟨fs, g1, g2⟩ := (hT _ _ h1).fty hk
        obtain ⟨j, h3, h4⟩ := tyW_some h2
        have hty := (hT _ _ h3).ty
        obtain ⟨v, h5, h6⟩ := valW_some h4
        split at h6
        · split at h6
          · rename_i ha
            rw [ha] at hty
            split at h6
            · rename_i hl
              obtain ⟨h7, h8⟩ := putW_ok h6
              exact t_fieldN hfld g1 (by rw [g2, ← nth_eq]; exact hft) hty h5 rfl (Nat.eq_of_beq_eq_true hl) hg h7 (hK _ _ _ _ h8)
            · exact h6.elim
          · rename_i ha
            rw [ha] at hty
            split at h6
            · rename_i u hu
              obtain ⟨h7, h8⟩ := putW_ok h6
              exact t_field1 hfld g1 (by rw [g2, ← nth_eq]; exact hft) hty h5 (by rw [← nth_eq]; exact hu) hg h7 (hK _ _ _ _ h8)
            · exact h6.elim
        · exact h6.elim
    · exact h2.elim
  case indexAddr t x y =>
    obtain ⟨i, h1, h2⟩ := tyW_some h
    split at h2
    · rename_i hk
      obtain ⟨v, h3, h4⟩ := valW_some h2
      split at h4
      · split at h4
        · rename_i es sz e hes
          obtain ⟨k, j, h6, ⟨⟨hm, hz⟩, a0, a1⟩, h7⟩ := intW_some h4
          subst hz
          obtain ⟨h8, h9⟩ := putW_ok h7
          exact t_index_arr ((hT _ _ h1).sli (Nat.eq_of_beq_eq_true hk)).1 h3 hm (by rw [← lo_eq]; exact hes) h6 a0 a1 hg h8 (hK _ _ _ _ h9)
        · exact h4.elim
      · split at h4
        · rename_i es he
          obtain ⟨k, j, h6, h7⟩ := intW_some h4
          obtain ⟨a0, a1, a2, a3⟩ := h7
          obtain ⟨h8, h9⟩ := putW_ok a3
          exact t_indexAddr ((hT _ _ h1).sli (Nat.eq_of_beq_eq_true hk)).1 h3 (sliceOf_is he) h6 a0 a1 a2 hg h8 (hK _ _ _ _ h9)
        · exact h4.elim
    · obtain ⟨hk, h2⟩ := kdW_some h2
      obtain ⟨k, j, h3, h4⟩ := intW_some h2
      obtain ⟨v, h5, h6⟩ := valW_some h4
      split at h6
      · obtain ⟨rfl, a1, a2⟩ := h6
        rename_i m
        obtain ⟨h7, h8⟩ := putW_ok a2
        exact t_indexArr ((hT _ _ h1).arr hk) h5 h3 (Int.natCast_nonneg m) (Int.ofNat_lt.2 a1) hg h7 (hK _ _ _ _ (by rw [Int.toNat_natCast]; exact h8))
      · obtain ⟨a0, a1, a2, a3, a4⟩ := h6
        obtain ⟨h7, h8⟩ := putW_ok a4
        exact t_indexArr_w ((hT _ _ h1).arr hk) h5 h3 a0 a1 a2 a3 hg h7 (hK _ _ _ _ h8)
      · exact h6.elim
  case binOp op tx x y ty' =>
    obtain ⟨vx, h1, h2⟩ := valW_some h
    obtain ⟨vy, h3, h4⟩ := valW_some h2
    split at h4
    · rename_i k a k' b
      split at h4
      · rename_i e
        have e := eq_of_beq e
        subst e
        obtain ⟨r, h5, h6⟩ := intBin_op h4
        obtain ⟨h7, h8⟩ := putW_ok h6
        exact t_bin h1 h3 h5 hg h7 (hK _ _ _ _ h8)
      · exact h4.elim
    · rename_i a b
      obtain ⟨i, h5, h6⟩ := tyW_some h4
      obtain ⟨hk, h6⟩ := kdW_some h6
      have hb := (hT _ _ h5).bool hk
      split at h6
      · obtain ⟨h7, h8⟩ := putW_ok h6
        exact t_eqBool hb h1 h3 rfl hg h7 (hK _ _ _ _ h8)
      · obtain ⟨h7, h8⟩ := putW_ok h6
        exact t_neBool hb h1 h3 rfl hg h7 (hK _ _ _ _ h8)
      · exact h6.elim
    · obtain ⟨i, h5, h6⟩ := tyW_some h4
      obtain ⟨hk, h6⟩ := kdW_some h6
      have hf := (hT _ _ h5).fn hk
      split at h6
      · exact h6.elim
      · rename_i b hb
        split at h6
        · obtain ⟨h7, h8⟩ := putW_ok h6
          exact t_eqFn hf h1 hb h3 hg h7 (hK _ _ _ _ h8)
        · obtain ⟨h7, h8⟩ := putW_ok h6
          exact t_neFn hf h1 hb h3 hg h7 (hK _ _ _ _ h8)
        · exact h6.elim
    · exact h4.elim
  case unOp op tx x =>
    obtain ⟨v, h1, h2⟩ := valW_some h
    split at h2
    · obtain ⟨h3, h4⟩ := putW_ok h2
      exact t_not h1 hg h3 (hK _ _ _ _ h4)
    · obtain ⟨h3, h4⟩ := putW_ok h2
      exact t_neg h1 hg h3 (hK _ _ _ _ h4)
    · exact h2.elim
  case convert s d x =>
    obtain ⟨i, h1, h2⟩ := tyW_some h
    obtain ⟨j, h3, h4⟩ := tyW_some h2
    obtain ⟨hk, h4⟩ := kdW_some h4
    obtain ⟨hk', h4⟩ := kdW_some h4
    obtain ⟨k, a, h5, h6⟩ := intW_some h4
    obtain ⟨h7, h8⟩ := putW_ok h6
    have hs : (P.underlying s).isSome = true := by
      have := (hT _ _ h3).int hk'
      unfold intB at this
      split at this
      · rename_i hh; rw [hh]; rfl
      · cases this
    exact t_conv ((hT _ _ h1).int hk) hs h5 hg h7 (hK _ _ _ _ h8)
  case extract x n =>
    obtain ⟨v, h1, h2⟩ := valW_some h
    split at h2
    · split at h2
      · rename_i u hu
        obtain ⟨h3, h4⟩ := putW_ok h2
        exact t_extract h1 (by rw [← nth_eq]; exact hu) hg h3 (hK _ _ _ _ h4)
      · exact h2.elim
    · exact h2.elim
  case makeFunc fn first caps =>
    cases fn with
    | func f =>
      simp only at h
      split at h
      · rename_i hf
        have hf' : first = #[] := Array.toList_eq_nil_iff.1 hf
        subst hf'
        split at h
        · rename_i vs hv
          obtain ⟨h3, h4⟩ := putW_ok h
          exact t_makeFunc (opVs_some hv) hg h3 (hK _ _ _ _ h4)
        · exact h.elim
      · exact h.elim
    | _ => exact h.elim
  case slice t x lo hi mx =>
    unfold cutW at h
    obtain ⟨i, h1, h2⟩ := tyW_some h
    obtain ⟨hk, h2⟩ := kdW_some h2
    obtain ⟨hs, _, _⟩ := (hT _ _ h1).sli hk
    obtain ⟨v, es, h3, h4, h5⟩ := sliW_some h2
    split at h5
    · obtain ⟨a1, a2⟩ := h5
      obtain ⟨h7, h8⟩ := putW_ok a2
      exact t_slice hs h3 h4 a1 hg h7 (hK _ _ _ _ h8)
    · obtain ⟨k, b, h6, h7⟩ := intW_some h5
      obtain ⟨a0, a1, a2, a3, a4, a5⟩ := h7
      obtain ⟨h7, h8⟩ := putW_ok a5
      exact t_slice_h hs h3 h4 a0 h6 a2 a3 (by simpa using a4) hg h7 (hK _ _ _ _ h8)
    · obtain ⟨k, b, h6, h7⟩ := intW_some h5
      obtain ⟨a0, a1, a2, a3, a4, a5⟩ := h7
      obtain ⟨h7, h8⟩ := putW_ok a5
      exact t_slice_l hs h3 h4 a0 h6 a1 a2 (by simpa using a4) hg h7 (hK _ _ _ _ h8)
    · obtain ⟨k, b, h6, h7⟩ := intW_some h5
      obtain ⟨k2, b2, h8, h9⟩ := intW_some h7
      obtain ⟨a0, a1, a2, a3, a4, a5⟩ := h9
      obtain ⟨h7, h10⟩ := putW_ok a5
      exact t_slice_lh hs h3 h4 a0 h6 h8 a1 a2 a3 a4 hg h7 (hK _ _ _ _ h10)
    · obtain ⟨k, b, h6, h7⟩ := intW_some h5
      obtain ⟨k2, b2, h8, h9⟩ := intW_some h7
      obtain ⟨rfl, a0, a1, a2, a3, a4, a5⟩ := h9
      obtain ⟨h7, h10⟩ := putW_ok a5
      exact t_slice3 hs h3 h4 a0 h6 h8 a2 a3 (by simpa using a4) hg h7 (hK _ _ _ _ h10)
    · exact h5.elim
  case makeMap t n =>
    cases n with
    | some n => exact h.elim
    | none =>
      simp only at h
      split at h
      · rename_i _ d
        obtain ⟨i, h1, h2⟩ := tyW_some h
        obtain ⟨hk, h2⟩ := kdW_some h2
        obtain ⟨h3, h4, h5⟩ := newW_ok h2
        exact t_makeMap i.eby hg h3 h4 (hK _ _ _ _ h5)
      · exact h.elim
  case mapUpdate t x y z =>
    obtain ⟨i, h1, h2⟩ := tyW_some h
    obtain ⟨hk, h2⟩ := kdW_some h2
    obtain ⟨m1, m2, m3⟩ := (hT _ _ h1).map hk
    split at h2
    · exact h2.elim
    · obtain ⟨vx, h3, h4⟩ := valW_some h2
      split at h4
      · rename_i l
        obtain ⟨vy, h5, h6⟩ := valW_some h4
        split at h6
        · rename_i k
          obtain ⟨v, h7, h8⟩ := valW_some h6
          split at h8
          · rename_i kc es hes
            split at h8
            · rename_i e1 e2 e3
              obtain ⟨rfl, h9⟩ := h8
              have e1 := Nat.eq_of_beq_eq_true e1
              subst e1
              exact t_mapUpdate (m := ⟨i.eby, es⟩) (plV_le v) m1 m2 h3 h5 h7 e2 e3 (by rw [← lo_eq]; exact hes) hg (hK _ _ _ _ h9)
            · exact h8.elim
          · exact h8.elim
        · exact h6.elim
      · exact h4.elim
  case lookup t x y c =>
    obtain ⟨i, h1, h2⟩ := tyW_some h
    obtain ⟨hk, h2⟩ := kdW_some h2
    obtain ⟨m1, m2, m3⟩ := (hT _ _ h1).map hk
    obtain ⟨vx, h3, h4⟩ := valW_some h2
    split at h4
    · rename_i l
      obtain ⟨vy, h5, h6⟩ := valW_some h4
      split at h6
      · rename_i k
        split at h6
        · rename_i kc es z hes hz
          split at h6
          · rename_i e1 e2
            obtain ⟨rfl, rfl, h7⟩ := h6
            have e1 := Nat.eq_of_beq_eq_true e1
            subst e1
            split at h7
            all_goals obtain ⟨h8, h9⟩ := putW_ok h7
            all_goals exact t_lookup (m := ⟨i.eby, es⟩) m1 m2 (m3 z hz) h3 h5 e2 (by rw [← lo_eq]; exact hes) hg h8 (hK _ _ _ _ h9)
          · exact h6.elim
        · exact h6.elim
      · exact h6.elim
    · exact h4.elim
  case range t x =>
    split at h
    · rename_i _ d
      obtain ⟨i, h1, h2⟩ := tyW_some h
      obtain ⟨hk, h2⟩ := kdW_some h2
      obtain ⟨m1, m2, m3⟩ := (hT _ _ h1).map hk
      obtain ⟨v, h3, h4⟩ := valW_some h2
      split at h4
      · rename_i l
        split at h4
        · rename_i bm ms clock hes
          split at h4
          · rename_i e1 e2 e3
            exact t_range m1 h3 (by rw [← lo_eq]; exact hes) hg e1 e2 e3 (hK _ _ _ _ h4)
          · exact h4.elim
        · exact h4.elim
      · exact h4.elim
    · exact h.elim
  case entry x =>
    obtain ⟨v, h1, h2⟩ := valW_some h
    split at h2
    · obtain ⟨e1, e2, he, hn, hk, h3⟩ := h2
      obtain ⟨h4, h5⟩ := putW_ok h3
      exact t_entry h1 (by rw [← lo_eq]; exact e1) (by rw [← lo_eq]; exact e2) he hn hk hg h4 (hK _ _ _ _ h5)
    · exact h2.elim
  case call c =>
    obtain ⟨callee, args, ats⟩ := c
    cases callee with
    | value fo =>
      simp only at h
      split at h
      · rename_i vals e1 e2
        obtain ⟨v, h1, h2⟩ := valW_some h
        have fin : ∀ (f : FuncId) (caps : List V), (v = .clo f caps ∨ (v = .d (.fn f) ∧ caps = [])) → CallW P C.G f vals caps ρ σ ls dst (fun rl wl a b c => Kk ⟨Oper.looksAt all ⟨dst, .call ⟨.value fo, args, ats⟩, ty, pos, af, gd⟩, dst, rl, wl⟩ a b c) → Tr P C all (⟨dst, .call ⟨.value fo, args, ats⟩, ty, pos, af, gd⟩ :: rest) ⟨ρ, σ, ls⟩ K := by
          rintro f caps hx ⟨hev, ha, hσ, hk, hfr, k⟩
          rename_i alls ret τ τ'
          rw [behind_iff] at k
          obtain ⟨q1, q2, q3⟩ := selO_act hσ
          have hkeys : (someO τ').map (·.1) = τ'.map (·.1) := by simp [someO, Function.comp_def]
          have hcont := hK _ _ _ _ k
          rw [← q1, ← hkeys] at hcont
          refine tr_op hg e1 (vals := v :: vals) (show Opds C.G (look ρ) (#[fo] ++ args).toList (v :: vals) from by rw [Array.toList_append]; exact ⟨_, _, rfl, h1, opVs_some e2⟩) (fp := actO σ τ) (wr := someO τ')
            (aop_callW (o := ⟨dst, .call ⟨.value fo, args, ats⟩, ty, pos, af, gd⟩) rfl rfl hx hev ha q1 q3 hk) q2 (fun l h1 h2 => ?_) hcont
          rw [hkeys] at h1
          obtain ⟨q, hq, rfl⟩ := List.mem_map.1 h1
          have := List.all_eq_true.1 hfr q hq
          rw [Bool.or_eq_true] at this
          rcases this with h3 | h3
          · obtain ⟨p, hp, e⟩ := List.any_eq_true.1 h3
            refine absurd ?_ h2
            rw [q1]
            exact List.mem_map.2 ⟨p, hp, Nat.eq_of_beq_eq_true e⟩
          · exact not_mem_of (by simpa using h3)
        split at h2
        · exact fin _ _ (.inl rfl) h2
        · exact fin _ _ (.inr ⟨rfl, rfl⟩) h2
        · exact h2.elim
      · exact h.elim
    | invoke r m => exact h.elim
    | builtin b =>
      cases b <;> simp only at h
      case len =>
        split at h
        · rename_i x t e1 e2
          have e1' : args = #[x] := by rw [← Array.toArray_toList (xs := args), e1]
          have e2' : ats = #[t] := by rw [← Array.toArray_toList (xs := ats), e2]
          subst e1'; subst e2'
          unfold lenW at h
          obtain ⟨i, h1, h2⟩ := tyW_some h
          split at h2
          · rename_i hk
            obtain ⟨v, h3, h4⟩ := valW_some h2
            split at h4
            · split at h4
              · rename_i es sz e hes
                obtain ⟨hm, rfl, h6⟩ := h4
                obtain ⟨h7, h8⟩ := putW_ok h6
                exact t_len_arr rfl ((hT _ _ h1).sli (Nat.eq_of_beq_eq_true hk)).1 h3 hm (by rw [← lo_eq]; exact hes) hg h7 (hK _ _ _ _ h8)
              · exact h4.elim
            · split at h4
              · rename_i es he
                obtain ⟨rfl, h6⟩ := h4
                obtain ⟨h7, h8⟩ := putW_ok h6
                exact t_len rfl ((hT _ _ h1).sli (Nat.eq_of_beq_eq_true hk)).1 h3 (sliceOf_is he) hg h7 (hK _ _ _ _ h8)
              · exact h4.elim
          split at h2
          · rename_i hk
            obtain ⟨v, h3, h4⟩ := valW_some h2
            split at h4
            · rename_i l
              split at h4
              · rename_i kc es hes
                obtain ⟨rfl, h5⟩ := h4
                obtain ⟨h7, h8⟩ := putW_ok h5
                exact t_lenMap ((hT _ _ h1).map (Nat.eq_of_beq_eq_true hk)).1 h3 (by rw [← lo_eq]; exact hes) hg h7 (hK _ _ _ _ h8)
              · exact h4.elim
            · exact h4.elim
          · obtain ⟨hk, h2⟩ := kdW_some h2
            obtain ⟨v, h3, h4⟩ := valW_some h2
            split at h4
            · obtain ⟨h7, h8⟩ := putW_ok h4
              exact t_len_str rfl ((hT _ _ h1).str hk) h3 hg h7 (hK _ _ _ _ h8)
            · exact h4.elim
        · exact h.elim
      case append =>
        split at h
        · rename_i x y t t' e1 e2
          split at h
          · rename_i ett
            have ett := Nat.eq_of_beq_eq_true ett
            subst ett
            have e1' : args = #[x, y] := by rw [← Array.toArray_toList (xs := args), e1]
            have e2' : ats = #[t, t] := by rw [← Array.toArray_toList (xs := ats), e2]
            subst e1'; subst e2'
            unfold appW at h
            obtain ⟨i, h1, h2⟩ := tyW_some h
            obtain ⟨hk, h2⟩ := kdW_some h2
            obtain ⟨hs, hb0, hb1⟩ := (hT _ _ h1).sli hk
            obtain ⟨vx, h3, h4⟩ := valW_some h2
            obtain ⟨vy, ys, h5, h6, h7⟩ := sliW_some h4
            have hbb : Nat.blt 0 i.eby = true := by simpa [Nat.blt_eq] using hb0
            have hmul : ∀ {n : Nat}, n ≤ 2000000000 → n * i.eby ≤ 140737488355328 := fun hn => Nat.le_trans (Nat.mul_le_mul hn hb1) (by decide)
            split at h7
            · exact h7.elim
            · rename_i d e
              have e : dst = some d := e
              subst e
              split at h7
              · exact h7.elim
              · rename_i hN
                split at h7
                · rename_i es l
                  split at h7
                  · rename_i n sz e hrow
                    obtain ⟨⟨rfl, rfl, rfl⟩, rfl, hes, hys, hb, k⟩ := h7
                    exact t_append_own rfl hs h3 h5 h6 (by rw [← lo_eq]; exact hrow) hes hys (hmul hb) hbb rfl hg hN (hK _ _ _ _ k)
                  · exact h7.elim
                · rename_i es
                  split at h7
                  · exact h7.elim
                  · rename_i hm
                    obtain ⟨rfl, hes, hys, hb, k⟩ := h7
                    exact t_append rfl hs h3 .rfl h5 h6 hes hys (hmul hb) hbb rfl hg hN hm (hK _ _ _ _ k)
                · split at h7
                  · exact h7.elim
                  · rename_i hm _
                    obtain ⟨rfl, hes, hys, hb, k⟩ := h7
                    exact t_append rfl hs h3 .nilfull h5 h6 hes hys (hmul hb) hbb rfl hg hN hm (hK _ _ _ _ k)
                  · rename_i hm _
                    obtain ⟨rfl, hes, hys, hb, k⟩ := h7
                    simp only [List.nil_append] at k
                    exact t_append_arr0 rfl hs h3 h5 h6 hys (hmul (by simpa using hb)) hbb hg hN hm (hK _ _ _ _ k)
                · split at h7
                  · rename_i es n e hes'
                    obtain ⟨⟨hm, rfl, rfl⟩, rfl, hes, hys, hb, k⟩ := h7
                    exact t_append_arr rfl hs h3 hm h5 h6 (by rw [← lo_eq]; exact hes') hys (hmul hb) hbb rfl hg hN (hK _ _ _ _ k)
                  · exact h7.elim
                · exact h7.elim
          · exact h.elim
        · exact h.elim
      all_goals exact h.elim
  all_goals exact h.elim

def skipW (all : Array Oper) (N : Nat) (o : Oper) (ρ : List (Nat × V)) (σ : List (Nat × Option O)) (ls : List Nat) (K : Kt) : Prop :=
  match dstOk o N with
  | true => putK ρ o.dst (.tup []) fun ρ => K ⟨o.looksAt all, o.dst, [], []⟩ ρ σ ls
  | false => False
structure GuardW (b : Bool) (X Y : Prop) : Prop where
  t : b = true → X
  f : b = false → Y
theorem gl {b : Bool} {X Y : Prop} (hb : b = true) (h : X) : GuardW b X Y := ⟨fun _ => h, fun e => by rw [hb] at e; cases e⟩
theorem gf {b : Bool} {X Y : Prop} (hb : b = false) (h : Y) : GuardW b X Y := ⟨(fun e => by rw [hb] at e; cases e), fun _ => h⟩
def opW (P : Program) (all : Array Oper) (T : TT) (G : Gl) (N : Nat) (o : Oper) (ρ : List (Nat × V)) (σ : List (Nat × Option O)) (ls : List Nat) (K : Kt) : Prop :=
  match o.guard with
  | none => doW P all T G N o ρ σ ls K
  | some (g, want) => match (all[g]?).bind (·.dst) with
    | none => False
    | some d => match lk ρ d with
      | some (.d (.bool c)) => GuardW (c == want) (doW P all T G N o ((d, .d (.bool want)) :: ρ) σ ls K) (skipW all N o ((d, .d (.bool (!want))) :: ρ) σ ls K)
      | some (.tup []) => skipW all N o ρ σ ls K
      | _ => False
theorem gwT {b : Bool} {R : Type} {F G : Option R} {r : R} {X Y : Prop} (h : cond b F G = some r) (h1 : F = some r → b = true → X) (h2 : G = some r → b = false → Y) : GuardW (b == true) X Y := by
  cases b with
  | true => exact gl rfl (h1 h rfl)
  | false => exact gf rfl (h2 h rfl)
theorem gwF {b : Bool} {R : Type} {F G : Option R} {r : R} {X Y : Prop} (h : cond b F G = some r) (h1 : F = some r → b = true → Y) (h2 : G = some r → b = false → X) : GuardW (b == false) X Y := by
  cases b with
  | true => exact gf rfl (h1 h rfl)
  | false => exact gl rfl (h2 h rfl)
/-- A guard whose outcome is known. -/
theorem ge {b v w : Bool} {X Y : Prop} (hb : b = v) (hv : (v == w) = true) (h : X) : GuardW (b == w) X Y := by subst hb; exact gl hv h
theorem gn {b v w : Bool} {X Y : Prop} (hb : b = v) (hv : (v == w) = false) (h : Y) : GuardW (b == w) X Y := by subst hb; exact gf hv h
theorem tr_congr {P : Program} {C : Ctx} {all : Array Oper} {rest : List Oper} {K : List FP → A → Prop} {ρ ρ' : List (Nat × V)} {σ : List (Nat × Option O)} {ls : List Nat} (h : look ρ = look ρ') (k : Tr P C all rest ⟨ρ, σ, ls⟩ K) : Tr P C all rest ⟨ρ', σ, ls⟩ K := by
  obtain ⟨recs, h1, h2, A', h3, h4, h5, h6⟩ := k
  exact ⟨recs, h1, by rw [← h]; exact h2, A', by rw [h3, h], h4, h5, h6⟩
theorem look_known {ρ : List (Nat × V)} {d : Nat} {v : V} (h : look ρ d = some v) : look ((d, v) :: ρ) = look ρ := funext fun t => by
  rw [look_cons]
  split
  · rename_i e; subst e; exact h.symm
  · rfl
theorem opW_ok (hT : TOk P T) {o : Oper} (h : opW P all T C.G C.N o ρ σ ls Kk) (hK : ∀ f a b c, Kk f a b c → Tr P C all rest ⟨a, b, c⟩ (fun fs y => K (f :: fs) y)) : Tr P C all (o :: rest) ⟨ρ, σ, ls⟩ K := by
  have skip : ∀ {ρ : List (Nat × V)}, guardIs all (look ρ) o false → skipW all C.N o ρ σ ls Kk → Tr P C all (o :: rest) ⟨ρ, σ, ls⟩ K := fun {ρ} hg hs => by
    unfold skipW at hs
    split at hs
    · rename_i e
      exact t_skip hg e (hK _ _ _ _ (putK_iff.1 hs))
    · exact hs.elim
  unfold opW at h
  split at h
  · rename_i e
    exact doW_ok hT (by unfold guardIs; rw [e]) h hK
  · rename_i g want e
    split at h
    · exact h.elim
    · rename_i d hd
      split at h
      · rename_i c hc
        rw [lk_eq] at hc
        cases hcw : (c == want) with
        | true =>
          replace h := h.t hcw
          have hcw := eq_of_beq hcw
          subst hcw
          refine tr_congr (look_known hc) (doW_ok hT ?_ h hK)
          unfold guardIs; rw [e]; exact ⟨d, hd, .inl ⟨c, by rw [look_known hc]; exact hc, by simp⟩⟩
        | false =>
          replace h := h.f hcw
          have hcw : c = !want := by cases c <;> cases want <;> simp_all
          subst hcw
          have hg : guardIs all (look ((d, .d (.bool !want)) :: ρ)) o false := by
            unfold guardIs; rw [e]; exact ⟨d, hd, .inl ⟨!want, by rw [look_known hc]; exact hc, by cases want <;> rfl⟩⟩
          exact tr_congr (look_known hc) (skip hg h)
      · rename_i hc
        rw [lk_eq] at hc
        exact skip (by unfold guardIs; rw [e]; exact ⟨d, hd, .inr ⟨hc, rfl⟩⟩) h
      · exact h.elim
def regW (P : Program) (all : Array Oper) (T : TT) (G : Gl) (N : Nat) : List Oper → List (Nat × V) → List (Nat × Option O) → List Nat → (List FP → List (Nat × V) → List (Nat × Option O) → List Nat → Prop) → Prop
  | [], ρ, σ, ls, K => K [] ρ σ ls
  | o :: r, ρ, σ, ls, K => opW P all T G N o ρ σ ls fun f ρ σ ls => regW P all T G N r ρ σ ls fun fs a b c => K (f :: fs) a b c
theorem regW_ok (hT : TOk P T) : ∀ {ops : List Oper} {ρ : List (Nat × V)} {σ : List (Nat × Option O)} {ls : List Nat} {K : List FP → List (Nat × V) → List (Nat × Option O) → List Nat → Prop}, regW P all T C.G C.N ops ρ σ ls K → Tr P C all ops ⟨ρ, σ, ls⟩ (fun fs s => K fs s.ρ s.σ s.ls)
  | [], _, _, _, K, h => tr_nil h
  | o :: r, _, _, _, K, h => opW_ok hT h fun f a b c hx => regW_ok hT hx
end
end Go.AM

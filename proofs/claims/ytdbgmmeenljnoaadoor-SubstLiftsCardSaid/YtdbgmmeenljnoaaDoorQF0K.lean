/-
  What the library's slices.Sorted over maps.Keys hands back at this program.
-/
import Derived.Test.YtdbgmmeenljnoaaDoorAnS
import Derived.Test.YtdbgmmeenljnoaaDoorTrydPlain
namespace Go.AM
open Go Go.Proofs Go.RowKit Go.Maps Go.Sort Go.Shelf
theorem sortsA (m : Nat) : AnyZI.SortsIn Tryd.prog Tryd.sortedA_ren Fence.wide m :=
  ⟨fun blk off cap ss W hH hblk hsz => callsIn_wide.2 (AnyM.slices_Sort_int Tryd.sortA blk off cap ss W hH hblk hsz),
   fun p cap W => callsIn_wide.2 (AnyM.slices_Sort_int_none Tryd.sortA p cap W)⟩
theorem KEYS46 : SortsKeysI Tryd.prog 46 68 3 := fun Bm b nn D0 R w hBm hcell hown hmax hbytes => by
  have hseq : SeqGives Fence.wide 2 Tryd.prog 68 #[.pointer (some ⟨Bm, 0, none⟩)] encZ (fun ss => ss.Perm (intKeys D0)) (Maps.size D0) w :=
    AnyZI.keys_gives (ρ := Tryd.keysA_ren) { Tryd.keysA with } Fence.wide _ trivial rfl (by omega) Bm b nn D0 w hBm hcell hown
  have cS := AnyZI.sorted_in Tryd.sortedA Fence.wide 5 trivial trivial trivial trivial rfl (by omega) (sortsA _) (enters_of Tryd.func67 (by kernel_rfl) rfl) 68 #[.pointer (some ⟨Bm, 0, none⟩)] trivial (enters_of Tryd.func68 (by kernel_rfl) rfl) _ _ hmax hbytes _ hseq
  change CallsIn _ _ Tryd.prog 46 _ _ _ at cS
  exact (callsIn_wide (n := 5)).1 cS
#print axioms KEYS46
end Go.AM

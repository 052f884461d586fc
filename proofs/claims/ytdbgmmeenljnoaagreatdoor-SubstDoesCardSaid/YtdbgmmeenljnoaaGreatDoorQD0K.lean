/-
  What the library's slices.Sorted over maps.Keys hands back at this program.
-/
import Derived.Test.YtdbgmmeenljnoaaGreatDoorAnS
import Derived.Test.YtdbgmmeenljnoaaGreatDoorQD0Sh
namespace Go.AM
open Go Go.Proofs Go.RowKit Go.Maps Go.Sort Go.Shelf
theorem sortsA (m : Nat) : AnyZI.SortsIn Tryz.prog Tryz.sortedA_ren Fence.wide m :=
  ⟨fun blk off cap ss W hH hblk hsz => callsIn_wide.2 (AnyM.slices_Sort_int Tryz.sortA blk off cap ss W hH hblk hsz),
   fun p cap W => callsIn_wide.2 (AnyM.slices_Sort_int_none Tryz.sortA p cap W)⟩
theorem KEYS44 : SortsKeysI Tryz.prog 44 72 3 := fun Bm b nn D0 R w hBm hcell hown hmax hbytes => by
  have hseq : SeqGives Fence.wide 2 Tryz.prog 72 #[.pointer (some ⟨Bm, 0, none⟩)] encZ (fun ss => ss.Perm (intKeys D0)) (Maps.size D0) w :=
    AnyZI.keys_gives (ρ := Tryz.keysA_ren) { Tryz.keysA with } Fence.wide _ trivial rfl (by omega) Bm b nn D0 w hBm hcell hown
  have cS := AnyZI.sorted_in Tryz.sortedA Fence.wide 5 trivial trivial trivial trivial rfl (by omega) (sortsA _) (enters_of Tryz.func71 (by kernel_rfl) rfl) 72 #[.pointer (some ⟨Bm, 0, none⟩)] trivial (enters_of Tryz.func72 (by kernel_rfl) rfl) _ _ hmax hbytes _ hseq
  change CallsIn _ _ Tryz.prog 44 _ _ _ at cS
  exact (callsIn_wide (n := 5)).1 cS
end Go.AM

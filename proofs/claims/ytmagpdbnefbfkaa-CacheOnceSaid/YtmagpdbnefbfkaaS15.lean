/- The library's sort at uint64: slices.Sort leaves the list sorted; put together. -/
import Derived.Test.YtmagpdbnefbfkaaSA6
import Derived.Test.YtmagpdbnefbfkaaSB3
import Derived.Test.YtmagpdbnefbfkaaSC4
import Derived.Test.YtmagpdbnefbfkaaS7
import Derived.Test.YtmagpdbnefbfkaaS11
import Derived.Test.YtmagpdbnefbfkaaS13
import Derived.Test.YtmagpdbnefbfkaaSN
import Derived.Sort.AssemblyPlain
namespace Go.Proofs.Ytmagpdbnefbfkaa
open Go Go.RowKit Go.Sort

theorem callees13 : Callees13 where
  ins := Try.insertionSort_u64
  brk := Try.breakPatterns_u64
  piv := Try.choosePivot_u64
  par := Try.partialInsertionSort_u64
  peq := Try.partitionEqualOrdered_u64
  prt := Try.partitionOrdered_u64

theorem plain13 : Plain13 where
  swo := swo_ltInt
  ins := insertionSort_holds
  par := partialInsertionSort_holds
  prt := partition_holds _
  peq := partitionEqual_holds _
  pdq := pdq_sorts _

theorem pdqWalkInt : pdqWalk_int := fun blk off cap a b limit d w hH hb hab hbd hsz hl hB =>
  Try.pdqsort_u64 callees13 plain13 (b - a + 1) blk off cap a b limit d w (by omega) hH hb hab hbd hsz hl hB

theorem sort_int_eq (zs : List Int) : Sort.sort ltInt zs.toArray = (zs.mergeSort fun x y => decide (x ≤ y)).toArray := by
  rw [← sortInt zs]

/-- slices.Sort at []uint64. -/
theorem Try.slices_Sort (blk off cap : Nat) (zs : List Int) (w : World) (hH : Holds (Value.int .u64) w blk off zs.toArray) (hblk : blk < w.heap.size) (hsz : zs.length < 4611686018427387904) :
    Calls Try.prog 28 #[.slice (some ⟨blk, off, none⟩) zs.length cap] w fun e w' =>
      e = .returned (.tuple #[]) ∧ ∃ n os, w' = grow (putRow (Value.int .u64) (Sort.ahead w n) blk off (zs.mergeSort fun x y => decide (x ≤ y)).toArray) os := by
  have h := Try.Sort_u64 pdqWalkInt blk off cap zs.toArray w hH hblk (by simpa using hsz)
  rw [sort_int_eq] at h
  simpa using h

end Go.Proofs.Ytmagpdbnefbfkaa

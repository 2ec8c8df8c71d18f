/- Lists of texts; strings.Split at one byte. -/
import Derived.Test.YtnppnogmpoigkaaDoorGood
import Derived.Test.YtnppnogmpoigkaaDoorTexts
import Derived.Test.YtnppnogmpoigkaaDoorEv
import Derived.Test.YtnppnogmpoigkaaDoorSplit
import Derived.Test.YtnppnogmpoigkaaDoorShelf
namespace Go.Proofs.YtnppnogmpoigkaaDoor
open Go.RowKit

theorem Tryd.infoStr : (Tryd.prog.info? 9).map (fun i => (i.zero, i.size, i.bytes)) = some (some (.string ⟨#[]⟩), 1, 16) := by kernel_rfl

/-- strings.Split at one byte. -/
theorem split_any (c : UInt8) (s : ByteArray) (hs : s.size < 4294967281) (w : World) (hG : Good w) :
    Calls Tryd.prog 25 #[.string s, .string ⟨#[c]⟩] w fun e w' => e = .returned (.slice (some ⟨w.heap.size, 0, none⟩) (splitOn c s.data.toList).length (splitOn c s.data.toList).length) ∧ w' = w.alloc (.cells (strs (splitOn c s.data.toList)).toArray 9) := by
  obtain ⟨m, hm⟩ := hG.max
  have h := Tryd.strings_Split s ⟨#[c]⟩ m w hs hm (by show 1 ≤ 1; decide)
  rw [countB_byte, splitB_bytes, List.map_map] at h
  exact h
end Go.Proofs.YtnppnogmpoigkaaDoor

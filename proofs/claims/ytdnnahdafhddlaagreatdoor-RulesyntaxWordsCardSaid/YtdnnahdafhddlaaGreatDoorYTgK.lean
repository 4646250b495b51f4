/- Walk of timegrid.Format. No condition. The plain law of TimegridReturns: the text of a time is read as the time. No walk. -/
import Derived.Test.YtdnnahdafhddlaaGreatDoorYSameL
namespace Go.Proofs.YtdnnahdafhddlaaGreatDoor
open Go.RowKit
set_option maxRecDepth 100000

def dayB (k : Nat) : ByteArray := dayNames.getD k ByteArray.empty
end Go.Proofs.YtdnnahdafhddlaaGreatDoor

namespace Go.Proofs.YtdnnahdafhddlaaGreatDoor

theorem map_data_inj : ∀ {xs ys : List ByteArray}, xs.map (·.data.toList) = ys.map (·.data.toList) → xs = ys
  | [], [], _ => rfl
  | [], _ :: _, h => by simp at h
  | _ :: _, [], h => by simp at h
  | x :: xs, y :: ys, h => by
    simp only [List.map_cons, List.cons.injEq] at h
    rw [map_data_inj h.2]
    congr 1
    apply ByteArray.ext
    exact Array.toList_inj.1 h.1
theorem split_text (s : ByteArray) (zs : List ByteArray) (h : splitOn1 32 s.data.toList = zs.map (·.data.toList)) : Lib.splitB ⟨#[32]⟩ 0 (Lib.countB s ⟨#[32]⟩) s = zs :=
  map_data_inj ((splitB_one 32 s).trans h)
end Go.Proofs.YtdnnahdafhddlaaGreatDoor

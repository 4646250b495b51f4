/- Appending a time. No condition. -/
import Derived.Test.YtimcdikeajbabaaGreatDoorRows
import Derived.WalkKit
import Derived.WalkSpells
import Derived.WalkLawsBesides
import Derived.BigGuardPart
import Derived.Lib.Hide
import Derived.Laws.BitsAllLaws
import Derived.Laws.BitsLemmas
import Derived.Lib.LaidTab
import Derived.Test.YtimcdikeajbabaaGreatDoorShelf
import Derived.Lib.ConvBytes
import Derived.Deep.QuietTactic
import Derived.BigQuiet
import Derived.Test.YtimcdikeajbabaaGreatDoorCards
import Derived.Test.YtimcdikeajbabaaGreatDoorTie
import Derived.ProofKit
import Derived.OpenShut
import Derived.LaidMore
import Derived.Lay
import Derived.SevenTiedAt
import Derived.Stop.Joined
import Derived.Stop.LaidErr
import Derived.Deep.DeepHandedRow
import Derived.Lib.LaidU8
import Derived.LaidSub
import Derived.Laws.ResultCell
import Derived.RegionTactic
import Derived.BigRegion
import Derived.Deep.RegionHeld3
import Derived.Deep.DeepCutAuto
import Derived.Lib.SmallJoins
import Derived.Lib.SplitLaws
import Derived.Lib.CountLaws
import Derived.Lib.IndexMore
import Derived.Lib.Split
import Derived.Lib.Join
import Derived.Lib.ItoaNum
import Derived.Laws.AppendOwn
import Derived.Deep.Slices
import Derived.Deep.Fields
import Derived.ChangeSame
import Derived.Deep.AppendLies
import Derived.Test.YtimcdikeajbabaaGreatDoorQOwn
import Derived.Test.YtimcdikeajbabaaGreatDoorQROneP
namespace Go.Proofs.YtimcdikeajbabaaGreatDoor
open Go.RowKit
set_option maxRecDepth 100000

theorem apd_times : Apd Tryz.prog 42 49 4 32 := apd Tryz.underlying42 (z := .agg #[.int .i64 0, .int .i64 0, .int .i64 0, .int .i64 0]) (by kernel_rfl) rfl
theorem rep_of_time {S : Nat → Prop} {w : World} (x1 x2 x3 x4 : Int) : kTime.rep S w (x1, x2, x3, x4) [.int .i64 x1, .int .i64 x2, .int .i64 x3, .int .i64 x4] :=
  ⟨[_], [_, _, _], rfl, rfl, [_], [_, _], rfl, rfl, [_], [_], rfl, rfl, rfl⟩
end Go.Proofs.YtimcdikeajbabaaGreatDoor

/- Walks of package weekset: what each function returns. Their conditions: numbers from 1 to 20 where the Go text guarantees them. -/
import Derived.Test.YtonpfohhedcjbaaGreatDoorKEnds
namespace Go.Proofs.YtonpfohhedcjbaaGreatDoor
open Go.RowKit

theorem span_empty (a k : Nat) (h : k < a) : maskTo (spanP a) k = 0 := maskTo_none fun i hi => by simp [spanP]; omega
theorem every_yes (a k : Nat) (h : a ≤ k + 1) (hp : (k + 1 - a) % 2 = 0) : everyP a k = true := by simp [everyP, h, hp]
theorem every_no (a k : Nat) (hp : (k + 1 - a) % 2 = 1) : everyP a k = false := by simp [everyP, hp]
/-- The five words, as the call lays them. -/
def wordCells (n : Nat) : Array Value :=
  #[.string ⟨#[97, 108, 108]⟩, .int .i64 (spanN 1 n), .string ⟨#[111, 100, 100]⟩, .int .i64 (everyN 1 n), .string ⟨#[101, 118, 101, 110]⟩, .int .i64 (everyN 2 n),
    .string ⟨#[102, 105, 114, 115, 116]⟩, .int .i64 (spanN 1 ((n + 1) / 2)), .string ⟨#[115, 101, 99, 111, 110, 100]⟩, .int .i64 (spanN ((n + 1) / 2 + 1) n)]
end Go.Proofs.YtonpfohhedcjbaaGreatDoor

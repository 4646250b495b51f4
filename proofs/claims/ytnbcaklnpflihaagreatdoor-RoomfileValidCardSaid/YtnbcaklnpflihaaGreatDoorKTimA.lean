/- Walk of fields.Codes, whole. Conditions: the cells; what the program's variables hold. Walk of Scanner.Times, whether a problem is noted or not. Conditions: a text shorter than 2^30 bytes; what the program's variables hold. -/
import Derived.Test.YtnbcaklnpflihaaGreatDoorKJoinR
import Derived.Test.YtnbcaklnpflihaaGreatDoorKFieldsC
import Derived.Test.YtnbcaklnpflihaaGreatDoorKGath
namespace Go.Proofs.YtnbcaklnpflihaaGreatDoor
open Go.RowKit
set_option maxRecDepth 100000

set_option maxHeartbeats 800000 in
theorem fcodesU_walk (A : Option Addr) (cs : List ByteArray) (c : Nat) (w : World) (hS : Std w) (hA : At kStr AnyB w A cs) (hl : cs.length ≤ 9223372036854775807) (hlc : cs.length ≤ c) :
    Calls Tryz.prog 24 #[.slice A cs.length c] w fun e w' => e = .returned (.string (joinV cs).2) ∧ Below w.heap.size w w' := by
  have hj := cjoin_walk A cs c w hS hA hl hlc
  obtain ⟨⟨n, s⟩, hv⟩ : ∃ r, joinV cs = r := ⟨_, rfl⟩
  rw [hv] at hj ⊢
  obtain ⟨N, hN⟩ : ∃ N, cs.length = N := ⟨_, rfl⟩
  rw [hN] at hj ⊢
  clear hv hN hA
  go_enter Tryz.func24, Tryz.ntmps24
  go_wp2_with fail
  refine hj.mono ?_
  rintro e w' ⟨rfl, hb⟩
  dsimp only
  go_wp2
  go_ret
  exact ⟨rfl, hb⟩
end Go.Proofs.YtnbcaklnpflihaaGreatDoor

namespace Go.Proofs.YtnbcaklnpflihaaGreatDoor
open Go.RowKit
set_option maxRecDepth 100000

def TimesAny (d sl b m n : Int) (g : Nat) (line : Int) (F : Option Addr) (fs : List Fld) (c k : Nat) (pr : Option Prob) (w : World) (e : Ending) (w' : World) : Prop :=
  ∃ (k' : Nat) (ts : List T4) (v : Value) (pr' : Option Prob), e = .returned v ∧ TimesOwn w.heap.size w' v ts ∧ Scan w' g line F fs.length c k' pr' ∧ Only g w w' ∧ k' ≤ k + 1 ∧ (pr = none → k' = k + 1 ∧ ts = (partsOf (textAt fs k)).map (pieceV d sl b m n) ∧ pr' = probOf line (colAt fs (k + 1)) (timesE d sl b m n (partsOf (textAt fs k)))) ∧ (∀ p, pr = some p → pr' = some p ∧ ts = [])
theorem times_any (B g : Nat) (line : Int) (F : Option Addr) (fs : List Fld) (c k : Nat) (pr : Option Prob) (d sl b m n : Int) (w : World) (hS : Std w) (h : Scan w g line F fs.length c k pr) (hF : FieldsAt B w F fs) (h2 : k < fs.length) (hm : fs.length ≤ 1000) (hB : B ≤ g) (hG : 10 ≤ g) (hs : (textAt fs k).size < 1073741824) :
    Calls Tryz.prog 44 #[.pointer (some ⟨g, 0, none⟩), .agg #[.int .i64 d, .int .i64 sl, .int .i64 b, .int .i64 m], .int .i64 n] w fun e w' => TimesAny d sl b m n g line F fs c k pr w e w' := by
  cases pr with
  | none =>
    refine (ftimes_go B g line F fs c k d sl b m n w hS h hF h2 hm hB hG hs).mono fun e w' ⟨v, he, ht, hs', ho⟩ => ?_
    exact ⟨k + 1, _, v, _, he, ht, hs', ho, Nat.le_refl _, fun _ => ⟨rfl, rfl, rfl⟩, fun p hp => by cases hp⟩
  | some p =>
    refine (ftimes_stop g line F fs.length c k p d sl b m n w h).mono fun e w' ⟨he, hb⟩ => ?_
    exact ⟨k, [], _, _, he, World.ownsRow_nil _ _ _ _, h.later hb, only_of_below hb _, by omega, (fun hp => by cases hp), fun q hq => ⟨hq, rfl⟩⟩
end Go.Proofs.YtnbcaklnpflihaaGreatDoor

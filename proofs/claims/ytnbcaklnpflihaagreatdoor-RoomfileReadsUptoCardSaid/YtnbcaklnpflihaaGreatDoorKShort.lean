/- Walk of Scanner.Times, whether a problem is noted or not. Conditions: a text shorter than 2^30 bytes; what the program's variables hold. Walk of timetableref07.Short. Conditions: texts shorter than 2^30 bytes; what the program's variables hold. -/
import Derived.Test.YtnbcaklnpflihaaGreatDoorKFieldsC
import Derived.Test.YtnbcaklnpflihaaGreatDoorKCOneR
import Derived.Test.YtnbcaklnpflihaaGreatDoorKListR
namespace Go.Proofs.YtnbcaklnpflihaaGreatDoor
open Go.RowKit
set_option maxRecDepth 100000

def TimesAny (d sl b m n : Int) (g : Nat) (line : Int) (F : Option Addr) (fs : List Fld) (c k : Nat) (pr : Option Prob) (w : World) (e : Ending) (w' : World) : Prop :=
  ∃ (k' : Nat) (ts : List T4) (v : Value) (pr' : Option Prob), e = .returned v ∧ TimesOwn w.heap.size w' v ts ∧ Scan w' g line F fs.length c k' pr' ∧ Only g w w' ∧ k' ≤ k + 1 ∧ (pr = none → k' = k + 1 ∧ ts = (partsOf (textAt fs k)).map (pieceV d sl b m n) ∧ pr' = probOf line (colAt fs (k + 1)) (timesE d sl b m n (partsOf (textAt fs k)))) ∧ (∀ p, pr = some p → pr' = some p ∧ ts = [])
theorem times_any (B g : Nat) (line : Int) (F : Option Addr) (fs : List Fld) (c k : Nat) (pr : Option Prob) (d sl b m n : Int) (w : World) (hS : Std w) (h : Scan w g line F fs.length c k pr) (hF : FieldsAt B w F fs) (h2 : k < fs.length) (hm : fs.length ≤ 1000) (hB : B ≤ g) (hG : 10 ≤ g) (hs : (textAt fs k).size < 1073741824) :
    Calls Tryz.prog 44 #[.pointer (some ⟨g, 0, none⟩), .agg #[.int .i64 d, .int .i64 sl, .int .i64 b, .int .i64 m], .int .i64 n] w fun e w' => TimesAny d sl b m n g line F fs c k pr w e w' := by
  cases pr with
  | none =>
    refine (ftimes_go B g line F fs c k d sl b m n w hS h hF h2 hm hB hG hs).mono fun e w' ⟨v, he, ht, hs', ho⟩ => ?_
    exact ⟨k + 1, _, v, _, he, ht, hs', ho, Nat.le_refl _, fun _ => ⟨rfl, rfl, rfl⟩, fun p hp => by cases hp⟩
  | some p =>
    refine (ftimes_stop g line F fs.length c k p d sl b m n w h).mono fun e w' ⟨he, hb⟩ => ?_
    exact ⟨k, [], _, _, he, World.ownsRow_nil _ _ _ _, h.later hb, only_of_below hb _, by omega, (fun hp => by cases hp), fun q hq => ⟨hq, rfl⟩⟩
end Go.Proofs.YtnbcaklnpflihaaGreatDoor

namespace Go.Proofs.YtnbcaklnpflihaaGreatDoor
open Go.RowKit
set_option maxRecDepth 100000

/-- A list of at most eight codes. -/
def shortV (s : ByteArray) : Nat × List ByteArray := if (listV s).1 = 0 ∧ 8 < (listV s).2.length then (2, []) else listV s
theorem short_codes (line col : Int) (t : ByteArray) : codesP 8 line col t = if (shortV t).1 = 0 then none else some (line, col, ((shortV t).1 : Int)) := by
  unfold codesP shortV
  obtain ⟨⟨en, l⟩, hlv⟩ : ∃ r, listV t = r := ⟨_, rfl⟩
  rw [hlv]
  dsimp only
  by_cases he : en = 0
  · subst he
    by_cases h8 : 8 < l.length
    · simp [h8, noted]
    · simp [h8, noted]
  · simp [he, noted]
theorem short_ok {t : ByteArray} (h : (shortV t).1 = 0) : (shortV t).2 = (listV t).2 := by
  unfold shortV at h ⊢
  split at h
  · cases h
  · rename_i hh
    rw [if_neg hh]
theorem short_len (t : ByteArray) (h : (shortV t).1 = 0) : (shortV t).2.length ≤ 8 := by
  unfold shortV at h ⊢
  split at h
  · cases h
  · rename_i hh
    rw [if_neg hh]
    have : ¬ (8 < (listV t).2.length) := fun h8 => hh ⟨h, h8⟩
    omega
set_option maxHeartbeats 2000000 in
theorem r7short_walk (s : ByteArray) (w : World) (hS : Std w) (hs : s.size < 1073741824) :
    Calls Tryz.prog 50 #[.string s] w fun e w' => BetwIs (shortV s) w e w' := by
  have hcall := r3list_walk s w hS hs
  have hsv : Hid (shortV s = if (listV s).1 = 0 ∧ 8 < (listV s).2.length then (2, []) else listV s) := hide rfl
  obtain ⟨⟨en, l⟩, hlv⟩ : ∃ r, listV s = r := ⟨_, rfl⟩
  rw [hlv] at hcall hsv
  dsimp only at hsv
  clear hlv hS
  go_enter Tryz.func50, Tryz.ntmps50
  go_wp2_with fail
  refine hcall.mono ?_
  clear hcall
  rintro e w1 ⟨v, rfl, hown, hb⟩
  dsimp only at hown ⊢
  obtain ⟨A6, c6, rfl⟩ := hown.form
  obtain ⟨L, hL⟩ : ∃ L, l.length = L := ⟨_, rfl⟩
  have hown2 := hown
  rw [hL] at hsv hown ⊢
  by_cases he : en = 0
  · subst he
    by_cases h8 : 8 < L
    · have h8i : (8 : Int) < (L : Int) := by omega
      have h2 : Hid (shortV s = (2, [])) := hide (by rw [hsv.out, if_pos ⟨rfl, h8⟩])
      clear hsv hown hown2 hL h8
      go_wp2
      go_ret2
      rw [h2.out]
      exact ⟨_, rfl, Own.nil, hb⟩
    · have h8i : ¬ (8 : Int) < (L : Int) := by omega
      have h2 : Hid (shortV s = (0, l)) := hide (by rw [hsv.out, if_neg (fun h => h8 h.2)])
      clear hsv h8 hown2 hL
      go_wp2
      go_ret2
      rw [h2.out]
      exact ⟨_, rfl, hown, hb⟩
  · have h2 : Hid (shortV s = (en, l)) := hide (by rw [hsv.out, if_neg (fun h => he h.1)])
    have hei : ¬ (en : Int) = 0 := by omega
    clear hsv hown2 hL he
    go_wp2
    go_ret2
    rw [h2.out]
    exact ⟨_, rfl, hown, hb⟩
end Go.Proofs.YtnbcaklnpflihaaGreatDoor

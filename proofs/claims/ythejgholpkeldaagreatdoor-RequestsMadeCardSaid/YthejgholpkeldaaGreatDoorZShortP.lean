/- Walks of Dice.Times and Dice.Staff: what is made, told by bounds. Conditions: the dice's cells; the variable people. Walks of timetablemade.Courses and Dice.Curricula: what is made, told by bounds. Conditions: the dice's cells; the classes'. Plain: a list of at most eight codes. No condition. -/
import Derived.Test.YthejgholpkeldaaGreatDoorRows
import Derived.WalkKit
import Derived.WalkSpells
import Derived.WalkLawsBesides
import Derived.BigGuardPart
import Derived.Lib.Hide
import Derived.Laws.BitsAllLaws
import Derived.Laws.BitsLemmas
import Derived.Lib.LaidTab
import Derived.Test.YthejgholpkeldaaGreatDoorShelf
import Derived.Lib.ConvBytes
import Derived.Deep.QuietTactic
import Derived.BigQuiet
import Derived.Test.YthejgholpkeldaaGreatDoorCards
import Derived.Test.YthejgholpkeldaaGreatDoorTie
import Derived.ProofKit
import Derived.OpenShut
import Derived.LaidMore
import Derived.Lay
import Derived.SevenTiedAt
import Derived.Stop.Joined
import Derived.Stop.LaidErr
import Derived.Deep.DeepHandedRow
import Derived.Lib.LaidU8
import Derived.LaidSub
import Derived.Laws.ResultCell
import Derived.RegionTactic
import Derived.BigRegion
import Derived.Deep.RegionHeld3
import Derived.Deep.DeepCutAuto
import Derived.Lib.SmallJoins
import Derived.Lib.SplitLaws
import Derived.Lib.CountLaws
import Derived.Lib.IndexMore
import Derived.Lib.Split
import Derived.Lib.Join
import Derived.Lib.ItoaNum
import Derived.Laws.AppendOwn
import Derived.Deep.Slices
import Derived.Deep.Fields
import Derived.ChangeSame
import Derived.Deep.AppendLies
import Derived.Lib.PathFns
import Derived.Deep.RegionLaw
import Derived.Deep.RegionLawGrows
import Derived.Test.YthejgholpkeldaaGreatDoorZSpoilB
import Derived.Test.YthejgholpkeldaaGreatDoorShelfS
import Derived.Test.YthejgholpkeldaaGreatDoorShelfT
import Derived.Lib.ItoaLen
import Derived.Lib.AppendIntMem
import Derived.Maps.Range
import Derived.Lib.OwnBridge
import Derived.Sort.OwnSorted
import Derived.Test.YthejgholpkeldaaGreatDoorZDSome
import Derived.Test.YthejgholpkeldaaGreatDoorZPairs
import Derived.Test.YthejgholpkeldaaGreatDoorZFound
namespace Go.Proofs.YthejgholpkeldaaGreatDoor
open Go.RowKit
set_option maxRecDepth 100000

/-- A row grown, or new memory: the dice stay. -/
theorem Thrown.grown {B : Nat} {a b c : World} {g : Nat} {v : Value} (h : Thrown B a g b) (hg : b.grownBy c v.ownBlock) (hv : ∀ y, v.ownBlock = some y → a.heap.size ≤ y) : Thrown B a g c :=
  h.far (Below.grown (Below.refl a.heap.size b) hg h.size hv)
end Go.Proofs.YthejgholpkeldaaGreatDoor

namespace Go.Proofs.YthejgholpkeldaaGreatDoor
open Go.RowKit
set_option maxRecDepth 100000

/-- The courses of classes, each once. -/
def coursesV : List Cls → List ByteArray → List ByteArray
  | [], out => out
  | x :: r, out => coursesV r (if 0 ≤ idxS x.2.1 out then out else out ++ [x.2.1])
def crsTo (l : List Cls) (n : Nat) : List ByteArray := coursesV (l.take n) []
theorem coursesV_app : ∀ (l r : List Cls) (out : List ByteArray), coursesV (l ++ r) out = coursesV r (coursesV l out)
  | [], r, out => rfl
  | x :: l, r, out => by rw [List.cons_append, coursesV, coursesV_app l r]; rfl
theorem crsTo_next {l : List Cls} {j : Nat} {x : Cls} (h : l[j]? = some x) : crsTo l (j + 1) = if 0 ≤ idxS x.2.1 (crsTo l j) then crsTo l j else crsTo l j ++ [x.2.1] := by
  unfold crsTo
  rw [List.take_add_one, h, coursesV_app]; rfl
theorem coursesV_len : ∀ (l : List Cls) (out : List ByteArray), (coursesV l out).length ≤ out.length + l.length
  | [], out => by simp [coursesV]
  | x :: r, out => by
    rw [coursesV]
    have := coursesV_len r (if 0 ≤ idxS x.2.1 out then out else out ++ [x.2.1])
    split at this
    · rename_i h; rw [if_pos h]; simp only [List.length_cons]; omega
    · rename_i h; rw [if_neg h]; simp only [List.length_append, List.length_cons, List.length_nil] at this ⊢; omega
theorem crsTo_len (l : List Cls) (n : Nat) : (crsTo l n).length ≤ l.length := by
  have h1 := coursesV_len (l.take n) []
  have h2 := List.length_take_le n l
  simp only [List.length_nil] at h1
  unfold crsTo
  have h3 : (l.take n).length ≤ l.length := by rw [List.length_take]; omega
  omega
theorem coursesV_nodup : ∀ (l : List Cls) (out : List ByteArray), out.Nodup → (coursesV l out).Nodup
  | [], out, h => h
  | x :: r, out, h => by
    rw [coursesV]
    refine coursesV_nodup r _ ?_
    split
    · exact h
    · rename_i hi
      rw [List.nodup_append]
      refine ⟨h, by simp, fun y hy z hz e => ?_⟩
      simp at hz
      subst hz
      exact hi (idx_mem.2 (e ▸ hy))
theorem coursesV_mem : ∀ (l : List Cls) (out : List ByteArray), ∀ z ∈ coursesV l out, z ∈ out ∨ ∃ x ∈ l, x.2.1 = z
  | [], out, z, h => .inl h
  | x :: r, out, z, h => by
    rw [coursesV] at h
    rcases coursesV_mem r _ z h with h | ⟨y, hy, e⟩
    · split at h
      · exact .inl h
      · rcases List.mem_append.1 h with h | h
        · exact .inl h
        · simp at h; exact .inr ⟨x, by simp, h.symm⟩
    · exact .inr ⟨y, by simp [hy], e⟩
def CrsIs (l : List Cls) (w : World) (e : Ending) (w' : World) : Prop := ∃ v, e = .returned v ∧ Own kStr 9 [] 0 w.heap.size w' v (coursesV l []) ∧ Below w.heap.size w w'
set_option maxHeartbeats 4000000 in
theorem courses_walk (A : Option Addr) (l : List Cls) (c : Nat) (w : World) (hl : l.length ≤ 1000000) (hA : At kCls AnyB w A l) :
    Calls Tryz.prog 24 #[.slice A l.length c] w fun e w' => CrsIs l w e w' := by
  obtain ⟨n, hnn⟩ : ∃ n, l.length = n := ⟨_, rfl⟩
  rw [hnn] at hl ⊢
  replace hnn := hide hnn
  go_enter Tryz.func24, Tryz.ntmps24
  go_wp2
  go_loopw [3, 4] (fun v i wr => ∃ j : Nat, j ≤ n ∧ i = .int .i64 j ∧ Own kStr 9 [] 0 w.heap.size wr v (crsTo l j) ∧ Below w.heap.size w wr) (fun _ i _ => n - (intOf i).toNat)
  case atStart => exact ⟨0, Nat.zero_le _, rfl, Own.nil, Below.refl _ _⟩
  case round =>
    obtain ⟨j, hj, rfl, hown, hb⟩ := hrel
    have hcl := crsTo_len l j
    rw [hnn.out] at hcl
    by_cases hlt : j < n
    · obtain ⟨x, hx⟩ : ∃ x, l[j]? = some x := ⟨_, List.getElem?_eq_getElem (by rw [hnn.out]; exact hlt)⟩
      have hj0 : (0 : Int) ≤ (j : Int) := by omega
      have hj1 : (j : Int) < (n : Int) := by omega
      obtain ⟨b, off, q, rfl, -, hbl, hq, e1, e2⟩ := (hA.later hb).cls hx
      have k1 := hq.2.1
      rw [e1] at k1
      obtain ⟨z, hz⟩ : ∃ z, x.2.1 = z := ⟨_, rfl⟩
      rw [hz] at k1
      have hnx := crsTo_next hx
      rw [hz] at hnx
      obtain ⟨A3, c3, rfl, -, hat⟩ := hown.any
      obtain ⟨L, hL⟩ : ∃ L, crsTo l j = L := ⟨_, rfl⟩
      rw [hL] at hown hat hnx hcl ⊢
      have hhas := mhas_walk A3 L c3 z wr hown.le hat.any
      replace hnx := hide hnx
      clear hx hq e1 e2 hz hL hat
      cases hd : decide (0 ≤ idxS z L) with
      | true =>
        rw [hd] at hhas
        have hnx' : Hid (crsTo l (j + 1) = L) := hide (by rw [hnx.out, if_pos (of_decide_eq_true hd)])
        clear hd hnx
        go_wp2_with (go_at_call 50; (with_reducible refine hhas.mono ?_); rintro e w6 ⟨rfl, rfl⟩)
        go_roundw
        case rel => exact ⟨j + 1, by omega, by go_num, by rw [hnx'.out]; exact hown, hb⟩
        case measure => simp [intOf]; omega
      | false =>
        rw [hd] at hhas
        have hnx' : Hid (crsTo l (j + 1) = L ++ [z]) := hide (by rw [hnx.out, if_neg (of_decide_eq_false hd)])
        clear hd hnx
        go_wp2_with (first | (go_at_call 50; (with_reducible refine hhas.mono ?_); rintro e w6 ⟨rfl, rfl⟩) | (at_builtin; refine wpList_own rfl _ _ rfl apd_strs (by decide) rfl (hown.alloc _) ?d1 (by decide) ⟨wr.heap.size, 0, none⟩ 1 rfl z [.string z] rfl (World.news_of_block (cs := #[.string z]) (t := 9) (fr := (0, 0)) (heap_alloc_new _ _)) (by decide) (Nat.zero_le _) ?d2 ?_))
        case d1 => omega
        case d2 => rw [World.size_alloc]; have := hb.size; omega
        intro v4 w4 hown4 hgrow
        have hb4 := below_grown (ext_alloc hb (.cells #[.string z] 9)) hgrow (fun y hy => (hown.lt y hy).1)
        clear hown hgrow
        go_wp2
        go_roundw
        case rel => exact ⟨j + 1, by omega, by go_num, by rw [hnx'.out]; exact hown4, hb4⟩
        case measure => simp [intOf]; omega
    · obtain rfl : j = n := by omega
      have hall : Hid (crsTo l j = coursesV l []) := hide (by unfold crsTo; rw [← hnn.out, List.take_length])
      rw [hall.out] at hown
      go_wp2
      go_ret
      exact ⟨_, rfl, hown, hb⟩

def dgB (q : Nat) : UInt8 := UInt8.ofNat (49 + q)
theorem conv_small (W : World) (q : Nat) (hq : q ≤ 100) (cap : Nat) : (convert 46 9 (.slice (some ⟨W.heap.size, 0, none⟩) 1 cap)).run Tryz.prog (W.alloc (.cells #[.int .u8 (49 + (q : Int))] 5)) = .ok (.string ⟨#[dgB q]⟩) (W.alloc (.cells #[.int .u8 (49 + (q : Int))] 5)) :=
  run_convert_bytes_back _ 46 9 5 ⟨W.heap.size, 0, none⟩ cap [UInt8.ofNat (49 + q)] Tryz.underlying46 Tryz.underlying5 Tryz.underlying9 (by
    intro j hj
    have hj : j = 0 := by simp at hj; omega
    subst hj
    have he : ((UInt8.ofNat (49 + q)).toNat : Int) = 49 + (q : Int) := by
      rw [UInt8.toNat_ofNat']; omega
    simp [Addr.add]
    omega)
theorem At.tyTossed {g B C : Nat} {a b : World} {A : Option Addr} {L : List ByteArray} (h : At kStr (fun x => x ≠ g ∧ Ty [9] 0 C a x) a A L) (T : Thrown B a g b) : At kStr (fun x => x ≠ g ∧ Ty [9] 0 C b x) b A L :=
  h.kept fun x ⟨h1, h2⟩ hlt => by
    have hb := T.only.block x hlt (fun e => h1 (by injection e))
    refine ⟨⟨h1, ?_⟩, Nat.lt_of_lt_of_le hlt T.size, hb⟩
    rcases h2 with h2 | ⟨h2, cs, t, h3, h4⟩
    · exact .inl h2
    · exact .inr ⟨h2, cs, t, hb.trans h3, h4⟩
theorem At.tyLater {g C : Nat} {a b : World} {A : Option Addr} {L : List ByteArray} (h : At kStr (fun x => x ≠ g ∧ Ty [9] 0 C a x) a A L) (hb : Below a.heap.size a b) : At kStr (fun x => x ≠ g ∧ Ty [9] 0 C b x) b A L :=
  h.kept fun x ⟨h1, h2⟩ hlt => by
    have hx := hb.block x hlt
    refine ⟨⟨h1, ?_⟩, Nat.lt_of_lt_of_le hlt hb.size, hx⟩
    rcases h2 with h2 | ⟨h2, cs, t, h3, h4⟩
    · exact .inl h2
    · exact .inr ⟨h2, cs, t, hx.trans h3, h4⟩
theorem At.tyGrown {g C e s n D : Nat} {u : Value} {xs : List Value} {a b : World} {A : Option Addr} {L : List ByteArray} (h : At kStr (fun x => x ≠ g ∧ Ty [9] 0 C a x) a A L) (ho : a.ownsRow D e s u n xs) (he : e ≠ 9) (hg : a.grownBy b u.ownBlock) : At kStr (fun x => x ≠ g ∧ Ty [9] 0 C b x) b A L :=
  h.kept fun x ⟨h1, h2⟩ hlt => by
    have hne : u.ownBlock ≠ some x := by
      rcases ho.2 with ⟨rfl, _⟩ | ⟨y, cap', cur', rfl, _, hy, _⟩
      · simp [Value.ownBlock]
      · intro e1
        have e1 : y = x := by simpa [Value.ownBlock] using e1
        subst e1
        rcases h2 with h2 | ⟨-, cs, t, h3, h4⟩
        · exact absurd h2 (Nat.not_lt_zero _)
        · rw [hy] at h3
          injection h3 with h3
          injection h3 with _ h5
          subst h5
          simp at h4
          exact he h4
    have hx := hg.block x hlt (fun e1 => hne e1.symm)
    refine ⟨⟨h1, ?_⟩, Nat.lt_of_lt_of_le hlt hg.size, hx⟩
    rcases h2 with h2 | ⟨h2, cs, t, h3, h4⟩
    · exact .inl h2
    · exact .inr ⟨h2, cs, t, hx.trans h3, h4⟩
theorem Kind.tyL {α : Type} (K : Kind α) {ts : List TypeId} {B0 B : Nat} {w w' : World} {a : α} {vs : List Value} (h : K.rep (Ty ts B0 B w) w a vs) (hb : Below w.heap.size w w') : K.rep (Ty ts B0 B w') w' a vs :=
  K.kept h fun b hs hlt => ⟨by
    rcases hs with hs | ⟨hs, cs, t, hc, ht⟩
    · exact .inl hs
    · exact .inr ⟨hs, cs, t, (hb.block b hlt).trans hc, ht⟩, Nat.lt_of_lt_of_le hlt hb.size, hb.block b hlt⟩
end Go.Proofs.YthejgholpkeldaaGreatDoor

namespace Go.Proofs.YthejgholpkeldaaGreatDoor
open Go.RowKit
set_option maxRecDepth 100000

/-- A list of at most eight codes. -/
def shortV (s : ByteArray) : Nat × List ByteArray := if (listV s).1 = 0 ∧ 8 < (listV s).2.length then (2, []) else listV s
theorem short_codes (line col : Int) (t : ByteArray) : codesP 8 line col t = if (shortV t).1 = 0 then none else some (line, col, ((shortV t).1 : Int)) := by
  unfold codesP shortV
  obtain ⟨⟨en, l⟩, hlv⟩ : ∃ r, listV t = r := ⟨_, rfl⟩
  rw [hlv]
  dsimp only
  by_cases he : en = 0
  · subst he
    by_cases h8 : 8 < l.length
    · simp [h8, noted]
    · simp [h8, noted]
  · simp [he, noted]
theorem short_ok {t : ByteArray} (h : (shortV t).1 = 0) : (shortV t).2 = (listV t).2 := by
  unfold shortV at h ⊢
  split at h
  · cases h
  · rename_i hh
    rw [if_neg hh]
end Go.Proofs.YthejgholpkeldaaGreatDoor

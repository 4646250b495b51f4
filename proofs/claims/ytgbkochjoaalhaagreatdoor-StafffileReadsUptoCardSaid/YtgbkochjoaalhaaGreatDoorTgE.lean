/- Walk of timegrid.Parse. Conditions: texts shorter than 2^30 bytes. -/
import Derived.Test.YtgbkochjoaalhaaGreatDoorTgD
import Derived.Test.YtgbkochjoaalhaaGreatDoorEnds
namespace Go.Proofs.YtgbkochjoaalhaaGreatDoor
open Go.RowKit

/-- The error of day and slots: 4, 14 or 0. -/
def slotE (d sl : Int) (x y z : ByteArray) : Int :=
  if dayI x < 0 ∨ slotsOk y.data.toList = false ∨ z.size = 0 then 4 else if d ≤ dayI x ∨ slotsTo y.data.toList < slotsFrom y.data.toList ∨ sl < slotsTo y.data.toList then 14 else 0
/-- What Parse returns: weeks, day, start, length, error. -/
def parseT (d sl b m n : Int) (zs : List ByteArray) : Int × Int × Int × Int × Int :=
  if weekB d sl b m n = false then (0, 0, 0, 0, 1) else
  match zs with
  | [x, y] => if slotE d sl x y y = 0 then (2 ^ n.toNat - 1, dayI x, slotsFrom y.data.toList - 1, slotsTo y.data.toList - slotsFrom y.data.toList + 1, 0) else (0, 0, 0, 0, slotE d sl x y y)
  | [x, y, z] => if slotE d sl x y z = 0 then
      if (parseV z n).2 = 0 then ((parseV z n).1, dayI x, slotsFrom y.data.toList - 1, slotsTo y.data.toList - slotsFrom y.data.toList + 1, 0) else (0, 0, 0, 0, (parseV z n).2)
    else (0, 0, 0, 0, slotE d sl x y z)
  | _ => (0, 0, 0, 0, 4)
def timeVal (v : Int × Int × Int × Int × Int) : Value := .tuple #[.agg #[.int .i64 v.1, .int .i64 v.2.1, .int .i64 v.2.2.1, .int .i64 v.2.2.2.1], .int .i64 v.2.2.2.2]

set_option maxHeartbeats 1000000 in
theorem parse_noweek (d sl b m n : Int) (s : ByteArray) (h : weekB d sl b m n = false) (w : World) :
    Calls Tryz.prog 26 #[.agg #[.int .i64 d, .int .i64 sl, .int .i64 b, .int .i64 m], .int .i64 n, .string s] w fun e w' => e = .returned (timeVal (0, 0, 0, 0, 1)) ∧ Below w.heap.size w w' := by
  go_enter Tryz.func26, Tryz.ntmps26
  go_wp2_with fail
  refine (tgWeek_walk _ _ _ _ _ _).mono ?_
  rintro e w1 ⟨rfl, hb⟩
  obtain ⟨hc, hf⟩ := bcell hb
  go_wp2
  refine end_set4 rfl (Or.inr rfl) _ _ _ _ _ _ rfl rfl rfl (four_of (heap_new2 _ _ _) hb) ⟨rfl, ext_set4 (by repeat (first | exact Below.refl _ _ | refine ext_alloc ?_ _ | refine ext_drewN ?_ _ | refine ext_drew ?_ | refine ext_trans ?_ (by assumption))) (by omega) _ _ _ _⟩

theorem isEmpty_false (z : ByteArray) (h : z.size ≠ 0) : z.toList.isEmpty = false := by
  rw [Lib.toList_data]
  cases hl : z.data.toList with
  | nil => exact absurd (by rw [← ba_len, hl]; rfl) h
  | cons a r => rfl
theorem isEmpty_true (z : ByteArray) (h : z.size = 0) : z.toList.isEmpty = true := by
  rw [Lib.toList_data]
  cases hl : z.data.toList with
  | nil => rfl
  | cons a r => rw [← ba_len, hl] at h; simp at h
theorem splitB_mem {c : UInt8} {s x : ByteArray} {zs : List ByteArray} (hz : Lib.splitB ⟨#[c]⟩ 0 (Lib.countB s ⟨#[c]⟩) s = zs) (hx : x ∈ zs) : x.size ≤ s.size := by
  have h1 : x.data.toList ∈ splitOn1 c s.data.toList := by rw [← splitB_one, hz]; exact List.mem_map.2 ⟨x, hx, rfl⟩
  have := (splitOn1_mem c _ _ h1).1
  rwa [ba_len, ba_len] at this

set_option maxHeartbeats 2000000 in
theorem parse_badlen (d sl b m n : Int) (s : ByteArray) (zs : List ByteArray) (hz : Lib.splitB ⟨#[32]⟩ 0 (Lib.countB s ⟨#[32]⟩) s = zs) (hl : zs.length < 2 ∨ 3 < zs.length) (hs : s.size < 1073741824) (h : weekB d sl b m n = true) (w : World) (hS : Std w) :
    Calls Tryz.prog 26 #[.agg #[.int .i64 d, .int .i64 sl, .int .i64 b, .int .i64 m], .int .i64 n, .string s] w fun e w' => e = .returned (timeVal (0, 0, 0, 0, 4)) ∧ Below w.heap.size w w' := by
  have hcl : Lib.countB s ⟨#[32]⟩ ≤ s.size := Lib.countB_le ⟨#[32]⟩ (Nat.le_refl 1) _ s (Nat.le_refl _)
  have hzl := splitB_len 32 s
  rw [hz] at hzl
  have hzl' : zs.length ≤ 1073741824 := by omega
  clear hzl
  have hz := hide hz
  have hs := hide hs
  rcases hl with hl | hl
  all_goals
    go_enter Tryz.func26, Tryz.ntmps26
    go_wp2_with fail
    refine (tgWeek_walk _ _ _ _ _ _).mono ?_
    rintro e w1 ⟨rfl, hb⟩
    obtain ⟨hc, hf⟩ := bcell hb
    have hS1 := hS.after (ext_trans (by repeat (first | exact Below.refl _ _ | refine ext_alloc ?_ _ | refine ext_drewN ?_ _ | refine ext_drew ?_ | refine ext_trans ?_ (by assumption))) hb)
    go_wp2_with fail
    refine (split_walk' 32 s zs hz.out (by have := hs.out; omega) _ hS1).mono ?_
    rintro e w2 ⟨rfl, hbn, -⟩
    replace hb := ext_trans hb hbn
    clear hc hf hbn
    obtain ⟨hc, hf⟩ := bcell hb
    go_wp2
    all_goals try (exfalso; omega)
    all_goals refine end_set4 rfl (Or.inr rfl) _ _ _ _ _ _ rfl rfl rfl (four_of (heap_new2 _ _ _) hb) ⟨rfl, ext_set4 (by repeat (first | exact Below.refl _ _ | refine ext_alloc ?_ _ | refine ext_drewN ?_ _ | refine ext_drew ?_ | refine ext_trans ?_ (by assumption))) (by omega) _ _ _ _⟩

end Go.Proofs.YtgbkochjoaalhaaGreatDoor

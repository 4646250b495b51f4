/- Walks of package timetablemade, on: times. -/
import Derived.Test.YtimcdikeajbabaaGreatDoorRows
import Derived.WalkKit
import Derived.WalkSpells
import Derived.WalkLawsBesides
import Derived.BigGuardPart
import Derived.Lib.Hide
import Derived.Laws.BitsAllLaws
import Derived.Laws.BitsLemmas
import Derived.Lib.LaidTab
import Derived.Test.YtimcdikeajbabaaGreatDoorShelf
import Derived.Lib.ConvBytes
import Derived.Deep.QuietTactic
import Derived.BigQuiet
import Derived.Laws.ResultCell
import Derived.RegionTactic
import Derived.BigRegion
import Derived.Deep.RegionHeld3
import Derived.Deep.DeepCutAuto
import Derived.Test.YtimcdikeajbabaaGreatDoorYDice
namespace Go.Proofs.YtimcdikeajbabaaGreatDoor
open Go.RowKit

/-- What the first statement of Time leaves: a box with weeks, day and start. -/
def TimeCut (B : Nat) (w : World) (g k : Nat) (d s b m : Int) (n : Nat) (s7 : Value) (W : World) : Prop :=
  ∃ (c : Nat) (v1 v2 v3 : Int), s7 = .pointer (some ⟨c, 0, none⟩) ∧ k + 2 ≤ c ∧ Box4 W c (.int .i64 v1) (.int .i64 v2) (.int .i64 v3) (.int .i64 0) ∧ Free W c ∧
    (1 ≤ v1 ∧ v1 < ((2 ^ n : Nat) : Int) ∧ 0 ≤ v2 ∧ v2 < d ∧ 0 ≤ v3 ∧ v3 < s) ∧ MakingS B w g k d s b m W
theorem timeCut_alloc {B : Nat} {w : World} {g k : Nat} {d s b m : Int} {n : Nat} {W : World} {v1 v2 v3 : Int} {c : Nat} (h : MakingS B w g k d s b m W) (hc : c = W.heap.size)
    (h1 : 1 ≤ v1) (h2 : v1 < ((2 ^ n : Nat) : Int)) (h3 : 0 ≤ v2) (h4 : v2 < d) (h5 : 0 ≤ v3) (h6 : v3 < s) :
    TimeCut B w g k d s b m n (.pointer (some ⟨c, 0, none⟩)) (W.alloc (.cells #[.int .i64 v1, .int .i64 v2, .int .i64 v3, .int .i64 0] 49)) := by
  subst hc
  exact ⟨_, v1, v2, v3, rfl, h.big, Box4.new _ _ _ _ _ _, Free.new _ _ _, ⟨h1, h2, h3, h4, h5, h6⟩, h.alloc _ _ _ _⟩
theorem timeCut_set {B : Nat} {w : World} {g k : Nat} {d s b m : Int} {n : Nat} {W : World} {v1 v2 v3 : Int} {c : Nat} (h : MakingS B w g k d s b m W) (hw : w.heap.size ≤ k) (hc : k + 2 ≤ c) (hlt : c < W.heap.size)
    (h1 : 1 ≤ v1) (h2 : v1 < ((2 ^ n : Nat) : Int)) (h3 : 0 ≤ v2) (h4 : v2 < d) (h5 : 0 ≤ v3) (h6 : v3 < s) :
    TimeCut B w g k d s b m n (.pointer (some ⟨c, 0, none⟩)) ((((W.setCell ⟨c, 0, none⟩ (.int .i64 v1)).setCell ⟨c, 1, none⟩ (.int .i64 v2)).setCell ⟨c, 2, none⟩ (.int .i64 v3)).setCell ⟨c, 3, none⟩ (.int .i64 0)) := by
  have hB := h.boxes c hc hlt
  have hS := MakingS.set4 h hw hc (.int .i64 v1) (.int .i64 v2) (.int .i64 v3) (.int .i64 0)
  obtain ⟨q0, q1, q2, q3⟩ := set4_cells W c (.int .i64 v1) (.int .i64 v2) (.int .i64 v3) (.int .i64 0) hB.1 _ rfl
  have hlt' : c < ((((W.setCell ⟨c, 0, none⟩ (.int .i64 v1)).setCell ⟨c, 1, none⟩ (.int .i64 v2)).setCell ⟨c, 2, none⟩ (.int .i64 v3)).setCell ⟨c, 3, none⟩ (.int .i64 0)).heap.size := World.block_lt_of_cell? _ _ q0
  exact ⟨c, v1, v2, v3, rfl, hc, ⟨q0, q1, q2, q3⟩, ⟨hlt', (hS.boxes c hc hlt').2⟩, ⟨h1, h2, h3, h4, h5, h6⟩, hS⟩
set_option maxHeartbeats 4000000 in
theorem time_walk (B g : Nat) (d s b m n : Int) (hd : 1 ≤ d ∧ d ≤ 1000) (hs : 1 ≤ s ∧ s ≤ 1000) (hn1 : 1 ≤ n) (hn : n ≤ 20) (w : World) (h : DiceOk B w g) :
    Calls Tryz.prog 78 #[.pointer (some ⟨g, 0, none⟩), .agg #[.int .i64 d, .int .i64 s, .int .i64 b, .int .i64 m], .int .i64 n] w fun e w' => TimesOf B d s n.toNat w g e w' := by
  have hlt := h.lt
  have hM : Making B w g w.heap.size d s b m ((w.alloc (.cells #[.int .i64 d, .int .i64 s, .int .i64 b, .int .i64 m] 24)).alloc (.cells #[.int .i64 0, .int .i64 0, .int .i64 0, .int .i64 0] 49)) :=
    ⟨((Thrown.refl h).alloc _).alloc _, ⟨by simp, by simp, by simp, by simp⟩, by have := Box4.new (w.alloc (.cells #[.int .i64 d, .int .i64 s, .int .i64 b, .int .i64 m] 24)) 49 (.int .i64 0) (.int .i64 0) (.int .i64 0) (.int .i64 0); simpa using this,
      by have := Free.new (w.alloc (.cells #[.int .i64 d, .int .i64 s, .int .i64 b, .int .i64 m] 24)) 49 #[.int .i64 0, .int .i64 0, .int .i64 0, .int .i64 0]; simpa using this,
      (Free.new w 24 #[.int .i64 d, .int .i64 s, .int .i64 b, .int .i64 m]).later (ext_alloc (Below.refl _ _) _)⟩
  obtain ⟨W, hW⟩ : ∃ W, (w.alloc (.cells #[.int .i64 d, .int .i64 s, .int .i64 b, .int .i64 m] 24)).alloc (.cells #[.int .i64 0, .int .i64 0, .int .i64 0, .int .i64 0] 49) = W := ⟨_, rfl⟩
  rw [hW] at hM
  have hWz : W.heap.size = w.heap.size + 2 := by rw [← hW]; simp
  have hWz := hide hWz
  obtain ⟨hd1, hd2⟩ := hd
  obtain ⟨hs1, hs2⟩ := hs
  go_enter Tryz.func78, Tryz.ntmps78
  go_upto_region 1 with fail
  clear hW
  have hMS : MakingS B w g w.heap.size d s b m W := by
    have hz : W.heap.size = w.heap.size + 2 := hWz.out
    exact makingS_of hM (by omega) fun c h1 h2 => by omega
  have hMd := MakingS.drew hMS
  clear hM hWz
  go_cut [7] (fun s7 W' => TimeCut B w g w.heap.size d s b m n.toNat s7 W')
  case first =>
    go_region_held3 (fun W' => W'.cell? ⟨w.heap.size, 0, none⟩ = some (.int .i64 d) ∧ W'.cell? ⟨w.heap.size, 1, none⟩ = some (.int .i64 s) ∧ w.heap.size + 2 ≤ W'.heap.size ∧ (∀ c, w.heap.size + 2 ≤ c → c < W'.heap.size → W'.cell? ⟨c, 0, none⟩ = some (cellOf W' c 0)) ∧ (∀ c, w.heap.size + 2 ≤ c → c < W'.heap.size → W'.cell? ⟨c, 1, none⟩ = some (cellOf W' c 1)) ∧ (∀ c, w.heap.size + 2 ≤ c → c < W'.heap.size → W'.cell? ⟨c, 2, none⟩ = some (cellOf W' c 2)) ∧ (∀ c, w.heap.size + 2 ≤ c → c < W'.heap.size → W'.cell? ⟨c, 3, none⟩ = some (cellOf W' c 3)) ∧ (∀ c j, w.heap.size + 2 ≤ c → c < W'.heap.size → W'.frozen? ⟨c, j, none⟩ = false) ∧ Making B w g w.heap.size d s b m W') (first | with_reducible assumption | ((with_reducible refine MakingS.alloc ?_ _ _ _ _); with_reducible assumption) | ((with_reducible refine MakingS.drew (MakingS.alloc ?_ _ _ _ _)); with_reducible assumption) | ((with_reducible refine MakingS.set4 ?_ (Nat.le_refl _) ?_ _ _ _ _); (with_reducible assumption); omega)) (first | (go_at_call 77; refine (set_gives (B := B) (S := MakingS B w g w.heap.size d s b m) hn1 hn (Making.thrown (MakingS.making (by with_reducible assumption))).dice (fun w' T hz => MakingS.on (by with_reducible assumption) hlt T hz)).mono ?_; rintro e w' ⟨v, rfl, p, q, hz, hs⟩) | (go_at_call 18; refine (next_gives (B := B) (S := MakingS B w g w.heap.size d s b m) (by omega) (by omega) (Making.thrown (MakingS.making (by with_reducible assumption))).dice (fun w' T hz => MakingS.on (by with_reducible assumption) hlt T hz)).mono ?_; rintro e w' ⟨v, rfl, p, q, hz, hs⟩))
    all_goals
      go_wp2_with fail
      go_meet
      first
        | exact timeCut_alloc (by with_reducible assumption) (by simp [*]) (by assumption) (by assumption) (by assumption) (by assumption) (by assumption) (by assumption)
        | exact timeCut_set (by with_reducible assumption) (Nat.le_refl _) (by omega) (by simp [*]) (by assumption) (by assumption) (by assumption) (by assumption) (by assumption) (by assumption)
  case rest =>
    obtain ⟨c, v1, v2, v3, rfl, hc, hX, hF, ⟨r1, r2, r3, r4, r5, r6⟩, hMS'⟩ := hcut
    clear hMS hMd
    have hM := hMS'.making
    have x0 := hX.c0
    have x1 := hX.c1
    have x2 := hX.c2
    have x3 := hX.c3
    have i1 := hM.grid.c1
    replace hMS' := hide hMS'
    go_wp2_with fail
    refine (next_walk B g (s - v3) (by omega) _ hM.thrown.dice).mono ?_
    rintro e w2 ⟨v4, rfl, p4, q4, -, T4, z4⟩
    have q4 := q4 (by omega)
    have hne : c ≠ g := by omega
    replace hX := T4.box hne hX
    replace hF := hF.thrown T4 hne
    have hB2 := (hMS'.out.on hlt T4 z4).all
    replace hM := hM.on hlt T4
    clear x0 x1 x2 x3 i1 T4 z4 hMS'
    have x0 := hX.c0
    have x1 := hX.c1
    have x2 := hX.c2
    have x3 := hX.c3
    have y0 := hF.2 0
    have y1 := hF.2 1
    have y2 := hF.2 2
    have y3 := hF.2 3
    have b0 := hM.box.c0
    have b1 := hM.box.c1
    have b2 := hM.box.c2
    have b3 := hM.box.c3
    have f0 := hM.free.2 0
    have f1 := hM.free.2 1
    have f2 := hM.free.2 2
    have f3 := hM.free.2 3
    have hcne : ¬ c = w.heap.size + 1 := by omega
    replace hB2 := hide hB2
    go_wp2
    refine end_set4one rfl (Or.inr rfl) _ _ _ _ _ rfl rfl (four_set hM.box.four _ _) ⟨_, _, _, _, rfl, ⟨r1, r2⟩, ⟨r3, r4⟩, ⟨r5, r6, by omega, by omega⟩, (hM.thrown.set (p := ⟨c, 3, none⟩) (by show w.heap.size ≤ c; omega) _).set4 (by omega) _ _ _ _, ((((hB2.out.set _ _).set _ _).set _ _).set _ _).set _ _⟩
end Go.Proofs.YtimcdikeajbabaaGreatDoor

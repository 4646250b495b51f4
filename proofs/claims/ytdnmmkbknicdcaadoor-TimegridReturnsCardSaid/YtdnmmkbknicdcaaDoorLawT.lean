/- The statement TimegridTimes: its walk. No condition but what the program's variables hold. -/
import Derived.Test.YtdnmmkbknicdcaaDoorTgG
import Derived.RegionTactic
import Derived.BigRegion
import Derived.Deep.RegionHeld3
import Derived.Deep.DeepCutAuto
namespace Go.Proofs.YtdnmmkbknicdcaaDoor
open Go.RowKit

theorem Box4.alloc {w : World} {g : Nat} {a b c d : Value} (h : Box4 w g a b c d) (o : Obj) : Box4 (w.alloc o) g a b c d := h.later (ext_alloc (Below.refl _ _) o)
theorem Box4.drew {w : World} {g : Nat} {a b c d : Value} (h : Box4 w g a b c d) : Box4 w.drew g a b c d := h.later (ext_drew (Below.refl _ _))

/-- The cells that the last statement reads. -/
abbrev Held (G g7 g8 : Nat) (d s b m a1 a2 a3 a4 b1 b2 b3 b4 : Int) (w0 W : World) : Prop := W.cell? ⟨G, 0, none⟩ = some (.int .i64 d) ∧ W.cell? ⟨G, 1, none⟩ = some (.int .i64 s) ∧ W.cell? ⟨G, 2, none⟩ = some (.int .i64 b) ∧ W.cell? ⟨G, 3, none⟩ = some (.int .i64 m) ∧ W.cell? ⟨g7, 0, none⟩ = some (.int .i64 a1) ∧ W.cell? ⟨g7, 1, none⟩ = some (.int .i64 a2) ∧ W.cell? ⟨g7, 2, none⟩ = some (.int .i64 a3) ∧ W.cell? ⟨g7, 3, none⟩ = some (.int .i64 a4) ∧ W.cell? ⟨g8, 0, none⟩ = some (.int .i64 b1) ∧ W.cell? ⟨g8, 1, none⟩ = some (.int .i64 b2) ∧ W.cell? ⟨g8, 2, none⟩ = some (.int .i64 b3) ∧ W.cell? ⟨g8, 3, none⟩ = some (.int .i64 b4) ∧ Std W ∧ Below w0.heap.size w0 W
theorem Held.later {G g7 g8 : Nat} {d s b m a1 a2 a3 a4 b1 b2 b3 b4 : Int} {w0 W W' : World} (h : Held G g7 g8 d s b m a1 a2 a3 a4 b1 b2 b3 b4 w0 W) (hb : Below W.heap.size W W') : Held G g7 g8 d s b m a1 a2 a3 a4 b1 b2 b3 b4 w0 W' := by
  obtain ⟨c0, c1, c2, c3, c4, c5, c6, c7, c8, c9, c10, c11, hS, h0⟩ := h
  exact ⟨cell_later hb c0, cell_later hb c1, cell_later hb c2, cell_later hb c3, cell_later hb c4, cell_later hb c5, cell_later hb c6, cell_later hb c7, cell_later hb c8, cell_later hb c9, cell_later hb c10, cell_later hb c11, hS.after hb, ext_trans h0 hb⟩
theorem Held.below {G g7 g8 : Nat} {d s b m a1 a2 a3 a4 b1 b2 b3 b4 : Int} {w0 W : World} (h : Held G g7 g8 d s b m a1 a2 a3 a4 b1 b2 b3 b4 w0 W) : Below w0.heap.size w0 W := by
  obtain ⟨-, -, -, -, -, -, -, -, -, -, -, -, -, h0⟩ := h
  exact h0
theorem keepS {P : Program} {f : FuncId} {args : Array Value} {w : World} {v : Value} {S : World → Prop} (hk : ∀ w', Below w.heap.size w w' → S w') (h : Calls P f args w fun e w' => e = .returned v ∧ Below w.heap.size w w') : Calls P f args w fun e w' => e = .returned v ∧ S w' :=
  h.mono fun _ w' ⟨he, hb⟩ => ⟨he, hk w' hb⟩

set_option maxHeartbeats 4000000 in
theorem times_walk (d s b m n a1 a2 a3 a4 b1 b2 b3 b4 : Int) (w : World) (hS : Std w) :
    Calls Tryd.prog 5 #[.agg #[.int .i64 d, .int .i64 s, .int .i64 b, .int .i64 m], .int .i64 n, .agg #[.int .i64 a1, .int .i64 a2, .int .i64 a3, .int .i64 a4, .int .i64 b1, .int .i64 b2, .int .i64 b3, .int .i64 b4]] w fun e w' => e = .returned (.bool true) ∧ Below w.heap.size w w' := by
  go_enter Tryd.func5, Tryd.ntmps5
  go_upto_region 1 with fail
  go_cut [7, 8] (fun s7 s8 wx => ∃ g7 g8 : Nat, s7 = .pointer (some ⟨g7, 0, none⟩) ∧ s8 = .pointer (some ⟨g8, 0, none⟩) ∧ Box4 wx g7 (.int .i64 a1) (.int .i64 a2) (.int .i64 a3) (.int .i64 a4) ∧ Box4 wx g8 (.int .i64 b1) (.int .i64 b2) (.int .i64 b3) (.int .i64 b4) ∧ Box4 wx w.heap.size (.int .i64 d) (.int .i64 s) (.int .i64 b) (.int .i64 m) ∧ Below w.heap.size w wx)
  case first =>
    go_region
    all_goals
      go_wp2_with fail
      go_meet
      refine ⟨_, _, rfl, rfl, ?_, ?_, ?_, (by repeat (first | exact Below.refl _ _ | refine ext_alloc ?_ _ | refine ext_drewN ?_ _ | refine ext_drew ?_ | refine ext_trans ?_ (by assumption)))⟩
      · constructor <;> simp [go_sem]
      · constructor <;> simp [go_sem]
      · constructor <;> simp [go_sem]
  case rest =>
    obtain ⟨g7, g8, rfl, rfl, B7, B8, BG, hb⟩ := hcut
    have hH : Held w.heap.size g7 g8 d s b m a1 a2 a3 a4 b1 b2 b3 b4 w _ := ⟨BG.c0, BG.c1, BG.c2, BG.c3, B7.c0, B7.c1, B7.c2, B7.c3, B8.c0, B8.c1, B8.c2, B8.c3, hS.after hb, hb⟩
    clear B7 B8 BG hb hS
    obtain ⟨c0, c1, c2, c3, c4, c5, c6, c7, c8, c9, c10, c11, hS, hb⟩ := id hH
    go_wp2_with fail
    refine (keepS (S := Held w.heap.size g7 g8 d s b m a1 a2 a3 a4 b1 b2 b3 b4 w) (fun _ hb => Held.later hH hb) (tgBetween_walk _ _ _ _ _ _ _ _ _)).mono ?_
    rintro e w1 ⟨rfl, hH1⟩
    clear c0 c1 c2 c3 c4 c5 c6 c7 c8 c9 c10 c11 hS hb hH
    obtain ⟨c0, c1, c2, c3, c4, c5, c6, c7, c8, c9, c10, c11, hS, hb⟩ := id hH1
    go_wp2_with fail
    refine (keepS (S := Held w.heap.size g7 g8 d s b m a1 a2 a3 a4 b1 b2 b3 b4 w) (fun _ hb => Held.later hH1 hb) (r6Between_walk _ _ _ _ _ _ _ _ _)).mono ?_
    rintro e w2 ⟨rfl, hH2⟩
    clear c0 c1 c2 c3 c4 c5 c6 c7 c8 c9 c10 c11 hS hb hH1
    obtain ⟨c0, c1, c2, c3, c4, c5, c6, c7, c8, c9, c10, c11, hS, hb⟩ := id hH2
    go_wp2_with fail
    have hd : Held w.heap.size g7 g8 d s b m a1 a2 a3 a4 b1 b2 b3 b4 w w2.drew := Held.later hH2 (ext_drew (Below.refl _ _))
    go_region_held3 (fun W => W.cell? ⟨w.heap.size, 0, none⟩ = some (.int .i64 d) ∧ W.cell? ⟨w.heap.size, 1, none⟩ = some (.int .i64 s) ∧ W.cell? ⟨w.heap.size, 2, none⟩ = some (.int .i64 b) ∧ W.cell? ⟨w.heap.size, 3, none⟩ = some (.int .i64 m) ∧ W.cell? ⟨g7, 0, none⟩ = some (.int .i64 a1) ∧ W.cell? ⟨g7, 1, none⟩ = some (.int .i64 a2) ∧ W.cell? ⟨g7, 2, none⟩ = some (.int .i64 a3) ∧ W.cell? ⟨g7, 3, none⟩ = some (.int .i64 a4) ∧ W.cell? ⟨g8, 0, none⟩ = some (.int .i64 b1) ∧ W.cell? ⟨g8, 1, none⟩ = some (.int .i64 b2) ∧ W.cell? ⟨g8, 2, none⟩ = some (.int .i64 b3) ∧ W.cell? ⟨g8, 3, none⟩ = some (.int .i64 b4) ∧ Std W ∧ Below w.heap.size w W) (first | assumption | exact hd) (first | (go_at_call 14; refine (keepS (S := Held w.heap.size g7 g8 d s b m a1 a2 a3 a4 b1 b2 b3 b4 w) (fun _ hb => Held.later (by assumption) hb) (awake06_walk _ (by first | exact Std.drew (by assumption) | assumption))).mono ?_; rintro e w' ⟨rfl, hs⟩) | (go_at_call 27; refine (keepS (S := Held w.heap.size g7 g8 d s b m a1 a2 a3 a4 b1 b2 b3 b4 w) (fun _ hb => Held.later (by assumption) hb) (tgValid_walk _ _ _ _ _)).mono ?_; rintro e w' ⟨rfl, hs⟩) | (go_at_call 28; refine (keepS (S := Held w.heap.size g7 g8 d s b m a1 a2 a3 a4 b1 b2 b3 b4 w) (fun _ hb => Held.later (by assumption) hb) (r6Valid_walk _ _ _ _ _)).mono ?_; rintro e w' ⟨rfl, hs⟩) | (go_at_call 29; refine (keepS (S := Held w.heap.size g7 g8 d s b m a1 a2 a3 a4 b1 b2 b3 b4 w) (fun _ hb => Held.later (by assumption) hb) (tgSound_walk _ _ _ _ _)).mono ?_; rintro e w' ⟨rfl, hs⟩) | (go_at_call 30; refine (keepS (S := Held w.heap.size g7 g8 d s b m a1 a2 a3 a4 b1 b2 b3 b4 w) (fun _ hb => Held.later (by assumption) hb) (r6Sound_walk _ _ _ _ _)).mono ?_; rintro e w' ⟨rfl, hs⟩) | (go_at_call 31; refine (keepS (S := Held w.heap.size g7 g8 d s b m a1 a2 a3 a4 b1 b2 b3 b4 w) (fun _ hb => Held.later (by assumption) hb) (tgFits_walk _ _ _ _ _ _ _ _ _ _)).mono ?_; rintro e w' ⟨rfl, hs⟩) | (go_at_call 32; refine (keepS (S := Held w.heap.size g7 g8 d s b m a1 a2 a3 a4 b1 b2 b3 b4 w) (fun _ hb => Held.later (by assumption) hb) (r6Fits_walk _ _ _ _ _ _ _ _ _ _)).mono ?_; rintro e w' ⟨rfl, hs⟩) | (go_at_call 20; refine (keepS (S := Held w.heap.size g7 g8 d s b m a1 a2 a3 a4 b1 b2 b3 b4 w) (fun _ hb => Held.later (by assumption) hb) (tgOverlap_walk _ _ _ _ _ _ _ _ _)).mono ?_; rintro e w' ⟨rfl, hs⟩) | (go_at_call 33; refine (keepS (S := Held w.heap.size g7 g8 d s b m a1 a2 a3 a4 b1 b2 b3 b4 w) (fun _ hb => Held.later (by assumption) hb) (r6Overlap_walk _ _ _ _ _ _ _ _ _)).mono ?_; rintro e w' ⟨rfl, hs⟩) | (go_at_call 21; refine (keepS (S := Held w.heap.size g7 g8 d s b m a1 a2 a3 a4 b1 b2 b3 b4 w) (fun _ hb => Held.later (by assumption) hb) (tgBefore_walk _ _ _ _ _ _ _ _ _)).mono ?_; rintro e w' ⟨rfl, hs⟩) | (go_at_call 34; refine (keepS (S := Held w.heap.size g7 g8 d s b m a1 a2 a3 a4 b1 b2 b3 b4 w) (fun _ hb => Held.later (by assumption) hb) (r6Before_walk _ _ _ _ _ _ _ _ _)).mono ?_; rintro e w' ⟨rfl, hs⟩))
    go_wp2
    go_ret
    refine ⟨ret_bool (by simp), ?_⟩
    exact Held.below (by assumption)
end Go.Proofs.YtdnmmkbknicdcaaDoor

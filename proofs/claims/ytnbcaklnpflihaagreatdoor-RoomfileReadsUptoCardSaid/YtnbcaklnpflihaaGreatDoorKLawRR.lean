/- Walk of the closure of roomfile.Lines: one room is read. Conditions: the scanner's cells are as Scan says; texts shorter than 2^30 bytes. Walk of timetableref07.room. Conditions: texts shorter than 2^30 bytes; what the program's variables hold. Walk of fields.Read at rooms. Conditions: texts shorter than 2^30 bytes; what the program's variables hold. Walks of roomfile.Lines and roomfile.Read. Conditions: texts shorter than 2^30 bytes; what the program's variables hold. Walk of timetableref07.Read. Conditions: texts shorter than 2^30 bytes; what the program's variables hold. Walk of roomfile.Open; what the first record of law 07 reads as. Conditions: the times' cells. The check at the head of law 07. Condition: the program's variables hold what Std says. The statement RoomfileReads: its walk. Conditions: what is read is bounded; what the program's variables hold. -/
import Derived.Test.YtnbcaklnpflihaaGreatDoorKROneP
import Derived.Test.YtnbcaklnpflihaaGreatDoorKRHas
import Derived.Test.YtnbcaklnpflihaaGreatDoorKSorted
import Derived.Test.YtnbcaklnpflihaaGreatDoorKStaffB
import Derived.Test.YtnbcaklnpflihaaGreatDoorKListC
import Derived.Test.YtnbcaklnpflihaaGreatDoorKROneQ
import Derived.Test.YtnbcaklnpflihaaGreatDoorKAscR
import Derived.Test.YtnbcaklnpflihaaGreatDoorKR9B
import Derived.Test.YtnbcaklnpflihaaGreatDoorKCOneR
import Derived.Test.YtnbcaklnpflihaaGreatDoorKWriteT
import Derived.Test.YtnbcaklnpflihaaGreatDoorKSameL
namespace Go.Proofs.YtnbcaklnpflihaaGreatDoor
open Go.RowKit
set_option maxRecDepth 100000

theorem listF_len64 : ∀ (ps out : List ByteArray), out.length ≤ 64 → (listF out ps).2.length ≤ 64
  | [], out, h => by
    rw [listF]
    split
    · exact h
    · exact Nat.zero_le _
  | p :: ps, out, h => by
    by_cases h1 : (partV p (64 - out.length)).1 ≠ 0
    · rw [listF_err h1]; exact Nat.zero_le _
    · obtain ⟨more, hm⟩ : ∃ more, partV p (64 - out.length) = (0, more) := ⟨_, Prod.ext (by omega) rfl⟩
      rw [listF_ok hm]
      by_cases h2 : 64 < (out ++ more).length
      · rw [if_pos h2]; exact Nat.zero_le _
      · rw [if_neg h2]; exact listF_len64 ps _ (by omega)
theorem listV_len64 (s : ByteArray) : (listV s).2.length ≤ 64 := by
  unfold listV
  split
  · exact Nat.zero_le _
  · exact listF_len64 _ _ (Nat.zero_le _)
theorem times_noting {g B : Nat} {w w' : World} {v : Value} {ts : List T4} (h : TimesOwn B w v ts) (ho : Only g w w') (hg : g < B) : TimesOwn B w' v ts :=
  World.ownsRow.kept h ho (by
    cases hv : v.ownBlock with
    | none => exact .inl rfl
    | some y => exact .inr fun e => by injection e with e; have := (World.ownsRow.lt h y hv).1; omega)
theorem times_later {B : Nat} {w w' : World} {v : Value} {ts : List T4} (h : TimesOwn B w v ts) (hb : Below w.heap.size w w') : TimesOwn B w' v ts :=
  World.ownsRow.kept h (only_of_below hb w.heap.size) (by
    cases hv : v.ownBlock with
    | none => exact .inl rfl
    | some y => exact .inr fun e => by have := (World.ownsRow.lt h y hv).2; injection e with e; omega)
def set5 (w : World) (r : Nat) (a b c d e : Value) : World := ((((w.setCell ⟨r, 0, none⟩ a).setCell ⟨r, 1, none⟩ b).setCell ⟨r, 2, none⟩ c).setCell ⟨r, 3, none⟩ d).setCell ⟨r, 4, none⟩ e
theorem set5_cells {w : World} {r : Nat} {a b c d e a' b' c' d' e' : Value} (h0 : w.cell? ⟨r, 0, none⟩ = some a') (h1 : w.cell? ⟨r, 1, none⟩ = some b') (h2 : w.cell? ⟨r, 2, none⟩ = some c') (h3 : w.cell? ⟨r, 3, none⟩ = some d') (h4 : w.cell? ⟨r, 4, none⟩ = some e') :
    (set5 w r a b c d e).cell? ⟨r, 0, none⟩ = some a ∧ (set5 w r a b c d e).cell? ⟨r, 1, none⟩ = some b ∧ (set5 w r a b c d e).cell? ⟨r, 2, none⟩ = some c ∧ (set5 w r a b c d e).cell? ⟨r, 3, none⟩ = some d ∧ (set5 w r a b c d e).cell? ⟨r, 4, none⟩ = some e := by
  have o : ∀ (W : World) (i j : Nat) (u : Value), i ≠ j → (W.setCell ⟨r, i, none⟩ u).cell? ⟨r, j, none⟩ = W.cell? ⟨r, j, none⟩ := fun W i j u h => World.cell?_setCell_other _ _ _ _ (by intro e; injection e with e1 e2; first | exact h e2 | exact h e2.symm)
  unfold set5
  refine ⟨?_, ?_, ?_, ?_, ?_⟩
  · rw [o _ _ _ _ (by decide), o _ _ _ _ (by decide), o _ _ _ _ (by decide), o _ _ _ _ (by decide)]; exact World.cell?_setCell_same _ _ _ h0
  · rw [o _ _ _ _ (by decide), o _ _ _ _ (by decide), o _ _ _ _ (by decide)]; exact World.cell?_setCell_same _ _ _ ((o _ _ _ _ (by decide)).trans h1)
  · rw [o _ _ _ _ (by decide), o _ _ _ _ (by decide)]; exact World.cell?_setCell_same _ _ _ ((o _ _ _ _ (by decide)).trans ((o _ _ _ _ (by decide)).trans h2))
  · rw [o _ _ _ _ (by decide)]; exact World.cell?_setCell_same _ _ _ ((o _ _ _ _ (by decide)).trans ((o _ _ _ _ (by decide)).trans ((o _ _ _ _ (by decide)).trans h3)))
  · exact World.cell?_setCell_same _ _ _ ((o _ _ _ _ (by decide)).trans ((o _ _ _ _ (by decide)).trans ((o _ _ _ _ (by decide)).trans ((o _ _ _ _ (by decide)).trans h4))))
theorem set5_scan {w : World} {g r : Nat} {line : Int} {F : Option Addr} {m c k : Nat} {pr : Option Prob} {z z' : ByteArray} {b2 c2 d2 e2 : Value} (h : Scan w g line F m c k pr) (h0 : w.cell? ⟨r, 0, none⟩ = some (.string z')) (hne : r ≠ g) : Scan (set5 w r (.string z) b2 c2 d2 e2) g line F m c k pr := by
  have o : ∀ (W : World) (i j : Nat) (u : Value), i ≠ j → (W.setCell ⟨r, i, none⟩ u).cell? ⟨r, j, none⟩ = W.cell? ⟨r, j, none⟩ := fun W i j u h => World.cell?_setCell_other _ _ _ _ (by intro e; injection e with e1 e2; first | exact h e2 | exact h e2.symm)
  have s0 : (w.setCell ⟨r, 0, none⟩ (.string z)).cell? ⟨r, 0, none⟩ = some (.string z) := World.cell?_setCell_same _ _ _ h0
  unfold set5
  exact scan_set (scan_set (scan_set (scan_set (scan_set h h0 hne) s0 hne) ((o _ _ _ _ (by decide)).trans s0) hne) ((o _ _ _ _ (by decide)).trans ((o _ _ _ _ (by decide)).trans s0)) hne) ((o _ _ _ _ (by decide)).trans ((o _ _ _ _ (by decide)).trans ((o _ _ _ _ (by decide)).trans s0))) hne
theorem set5_only {a w : World} {g r : Nat} {b1 b2 c2 d2 e2 : Value} (h : Only g a w) (hp : r = g ∨ a.heap.size ≤ r) : Only g a (set5 w r b1 b2 c2 d2 e2) :=
  only_setCell (only_setCell (only_setCell (only_setCell (only_setCell h hp _) hp _) hp _) hp _) hp _
def RoomGives (d sl b m n : Int) (g : Nat) (line : Int) (F : Option Addr) (fs : List Fld) (c : Nat) (ls : List Room) (w : World) (e : Ending) (w' : World) : Prop :=
  ∃ (t0 t1 : ByteArray) (nn : Nat) (l : List ByteArray) (ts : List T4) (v3 v4 : Value) (k : Nat), e = .returned (.agg #[.string t0, .string t1, .int .i64 (nn : Int), v3, v4]) ∧ Own kStr 9 [] 0 w.heap.size w' v3 (ascS l) ∧ TimesOwn w.heap.size w' v4 ts ∧ Scan w' g line F fs.length c k (roomP d sl b m n line fs ls) ∧ (roomP d sl b m n line fs ls = none → (t0, t1, (nn : Int), ascS l, ts) = roomOf d sl b m n fs) ∧ Only g w w'
set_option maxHeartbeats 8000000 in
theorem rone_walk (B gb nb g : Nat) (d sl b m n line : Int) (F : Option Addr) (fs : List Fld) (c : Nat) (A : Option Addr) (ls : List Room) (cr : Nat) (w : World) (hS : Std w) (hCl : Cl gb nb d sl b m n w) (hgb : gb ≠ g) (hnb : nb ≠ g)
    (hsc : Scan w g line F fs.length c 0 none) (hF : FieldsAt B w F fs) (hl : fs.length = 5) (hB : B ≤ g) (hN : 10 ≤ B) (hsz : ∀ k, (textAt fs k).size < 1073741824) (hq : ls.length ≤ 1000000000) (hw : At kRoom (· < g) w A ls) :
    Calls Tryz.prog 39 #[.pointer (some ⟨g, 0, none⟩), .slice A ls.length cr, .pointer (some ⟨gb, 0, none⟩), .pointer (some ⟨nb, 0, none⟩)] w fun e w' => RoomGives d sl b m n g line F fs c ls w e w' := by
  have hgl := hsc.lt
  go_enter Tryz.func39, Tryz.ntmps39
  go_wp2_with fail
  have hb0 : Below w.heap.size w (w.alloc (.cells #[.string ⟨#[]⟩, .string ⟨#[]⟩, .int .i64 0, .slice none 0 0, .slice none 0 0] 47)) := ext_alloc (Below.refl _ _) _
  have hr5 := five_new w ⟨⟨#[]⟩, ⟨#[]⟩, 0, none, 0, 0, none, 0, 0⟩ 47
  have f0 : ∀ j, (w.alloc (.cells #[.string ⟨#[]⟩, .string ⟨#[]⟩, .int .i64 0, .slice none 0 0, .slice none 0 0] 47)).frozen? ⟨w.heap.size, j, none⟩ = false := fun j => by simp
  have hS0 := hS.after hb0
  have hsc0 := hsc.later hb0
  have hCl0 := hCl.later hb0
  have how := Only.later (Only.refl g w) hb0
  have hF0 := hF.below (hb0.mono (by omega) : Below B _ _)
  have hw0 := hw.below (hb0.mono (by omega) : Below g _ _)
  have hz0 : (w.alloc (.cells #[.string ⟨#[]⟩, .string ⟨#[]⟩, .int .i64 0, .slice none 0 0, .slice none 0 0] 47)).heap.size = w.heap.size + 1 := World.size_alloc _ _
  obtain ⟨W0, hW0⟩ : ∃ W0, w.alloc (.cells #[.string ⟨#[]⟩, .string ⟨#[]⟩, .int .i64 0, .slice none 0 0, .slice none 0 0] 47) = W0 := ⟨_, rfl⟩
  rw [hW0] at f0 hS0 hsc0 hCl0 how hF0 hw0 hz0 ⊢
  have hr5' : FiveAt W0 w.heap.size 0 ⟨⟨#[]⟩, ⟨#[]⟩, 0, none, 0, 0, none, 0, 0⟩ := hW0 ▸ hr5
  clear hr5
  obtain ⟨r, hr⟩ : ∃ r, w.heap.size = r := ⟨_, rfl⟩
  rw [hr] at hr5' f0 hz0 hgl ⊢
  have hrg : r ≠ g := by omega
  have hrl : r < W0.heap.size := by omega
  have hgW : g < W0.heap.size := by omega
  replace hW0 := hide hW0
  replace hr := hide hr
  replace hr5' := hide hr5'
  replace f0 := hide f0
  clear hsc hF hw hb0 hS hCl
  refine (code_any B g line F fs c 0 none W0 hsc0 hF0 (by omega) (by omega) hB (fun p hp => by cases hp)).mono ?_
  rintro e w1 ⟨k1, t0, pr1, rfl, hs1, ho1, i1, j1, a1, -⟩
  replace a1 := hide (a1 rfl)
  go_wp2_with fail
  refine (code_any B g line F fs c k1 pr1 w1 hs1 (hF0.only ho1 hB (by omega)) (by omega) (by omega) hB (fun _ _ => i1)).mono ?_
  rintro e w2 ⟨k2, t1, pr2, rfl, hs2, ho2, i2, j2, b1, b2⟩
  replace b1 := hide b1
  replace b2 := hide b2
  replace ho2 : Only g W0 w2 := ho1.trans ho2
  clear hs1 hsc0 ho1
  go_wp2_with fail
  refine (num_anyS B g line F fs c k2 4 pr2 w2 hs2 (hF0.only ho2 hB (by omega)) (by omega) (by omega) hB (fun _ _ => i2) (by decide) (by have := hsz k2; omega)).mono ?_
  rintro e w3 ⟨k3, nn, pr3, rfl, hs3, ho3, i3, j3, c1, c2⟩
  replace c1 := hide c1
  replace c2 := hide c2
  replace ho3 : Only g W0 w3 := ho2.trans ho3
  have hz3 := ho3.size
  clear hs2 ho2
  go_wp2_with fail
  have hx5 := five_new w3 ⟨t0, t1, (nn : Int), none, 0, 0, none, 0, 0⟩ 47
  have hb4 : Below w3.heap.size w3 (w3.alloc (.cells #[.string t0, .string t1, .int .i64 (nn : Int), .slice none 0 0, .slice none 0 0] 47)) := ext_alloc (Below.refl _ _) _
  have xf : ∀ j, (w3.alloc (.cells #[.string t0, .string t1, .int .i64 (nn : Int), .slice none 0 0, .slice none 0 0] 47)).frozen? ⟨w3.heap.size, j, none⟩ = false := fun j => by simp
  have hz4 : (w3.alloc (.cells #[.string t0, .string t1, .int .i64 (nn : Int), .slice none 0 0, .slice none 0 0] 47)).heap.size = w3.heap.size + 1 := World.size_alloc _ _
  have hs4 := hs3.later hb4
  have ho4 : Only g W0 _ := Only.later ho3 hb4
  obtain ⟨x, hx⟩ : ∃ x, w3.heap.size = x := ⟨_, rfl⟩
  obtain ⟨W4, hW4⟩ : ∃ W4, w3.alloc (.cells #[.string t0, .string t1, .int .i64 (nn : Int), .slice none 0 0, .slice none 0 0] 47) = W4 := ⟨_, rfl⟩
  have hx5' : FiveAt W4 w3.heap.size 0 ⟨t0, t1, (nn : Int), none, 0, 0, none, 0, 0⟩ := hW4 ▸ hx5
  clear hx5
  rw [hW4] at hs4 ho4 hz4 xf ⊢
  rw [hx] at hx5' hz4 xf ⊢
  obtain ⟨x0, x1, x2, x3, x4⟩ := hx5'
  simp only [Nat.zero_add] at x0 x1 x2 x3 x4
  have hxg : x ≠ g := by omega
  have hx4 : x < W4.heap.size := by omega
  have hWx : W0.heap.size ≤ x := by omega
  clear hs3 hb4 ho3 hW4 hx
  refine (list_any B g line F fs c k3 8 pr3 W4 (ho4.std hS0 (by omega)) hs4 (hF0.only ho4 hB (by omega)) (by omega) (by omega) hB hN (fun _ _ => i3) (hsz k3)).mono ?_
  rintro e w5 ⟨k4, l, v, pr4, rfl, hown, hs5, ho5, i4, j4, d1, d2⟩
  have hl64 : l.length ≤ 64 := by
    cases hp : pr3 with
    | none => rw [(d1 hp).2.1]; exact listV_len64 _
    | some p => rw [(d2 p hp).2]; exact Nat.zero_le _
  replace d1 := hide d1
  replace d2 := hide d2
  have hz5 := ho5.size
  have y0 := (ho5.cell hx4 hxg).trans x0
  have y1 := (ho5.cell hx4 hxg).trans x1
  have y2 := (ho5.cell hx4 hxg).trans x2
  have y3 := (ho5.cell hx4 hxg).trans x3
  have y4 := (ho5.cell hx4 hxg).trans x4
  have yf : ∀ j, w5.frozen? ⟨x, j, none⟩ = false := fun j => (ho5.frozen hx4 hxg).trans (xf j)
  replace ho5 : Only g W0 w5 := ho4.trans ho5
  obtain ⟨A6, c6, rfl, -, hat6⟩ := hown.any
  have hsort := fsorted_walk A6 l c6 w5 (by omega) hat6.any
  obtain ⟨L, hL⟩ : ∃ L, l.length = L := ⟨_, rfl⟩
  rw [hL] at hsort ⊢
  replace hL := hide hL
  have hx5 : x < w5.heap.size := by omega
  clear x0 x1 x2 x3 x4 xf hs4 ho4 hown hat6
  go_wp2_with fail
  refine hsort.mono ?_
  rintro e w6 ⟨v6, rfl, hown6, hb6⟩
  obtain ⟨A7, c7, rfl⟩ := hown6.form
  have z0 := cell_later hb6 y0
  have z1 := cell_later hb6 y1
  have z2 := cell_later hb6 y2
  have z3 := cell_later hb6 y3
  have z4 := cell_later hb6 y4
  have zf : ∀ j, w6.frozen? ⟨x, j, none⟩ = false := fun j => (Only.frozen (g := g) (only_of_below hb6 _) hx5 hxg).trans (yf j)
  have hs6 := hs5.later hb6
  have ho6 : Only g W0 w6 := Only.later ho5 hb6
  have hz6 := hb6.size
  have hx6 : x < w6.heap.size := by omega
  obtain ⟨M, hM⟩ : ∃ M, (ascS l).length = M := ⟨_, rfl⟩
  rw [hM]
  have zf3 := zf 3
  clear y0 y1 y2 y3 y4 yf hs5 ho5 hb6 hsort
  have q0 : (w6.setCell ⟨x, 3, none⟩ (.slice A7 M c7)).cell? ⟨x, 0, none⟩ = some (.string t0) := (World.cell?_setCell_other _ _ _ _ (by simp)).trans z0
  have q1 : (w6.setCell ⟨x, 3, none⟩ (.slice A7 M c7)).cell? ⟨x, 1, none⟩ = some (.string t1) := (World.cell?_setCell_other _ _ _ _ (by simp)).trans z1
  have q2 : (w6.setCell ⟨x, 3, none⟩ (.slice A7 M c7)).cell? ⟨x, 2, none⟩ = some (.int .i64 (nn : Int)) := (World.cell?_setCell_other _ _ _ _ (by simp)).trans z2
  have q3 : (w6.setCell ⟨x, 3, none⟩ (.slice A7 M c7)).cell? ⟨x, 3, none⟩ = some (.slice A7 M c7) := World.cell?_setCell_same _ _ _ z3
  have q4 : (w6.setCell ⟨x, 3, none⟩ (.slice A7 M c7)).cell? ⟨x, 4, none⟩ = some (.slice none 0 0) := (World.cell?_setCell_other _ _ _ _ (by simp)).trans z4
  have hs7 := scan_set (j := 3) (u := .slice A7 M c7) hs6 z0 hxg
  have ho7 : Only g W0 (w6.setCell ⟨x, 3, none⟩ (.slice A7 M c7)) := only_setCell ho6 (Or.inr hWx) _
  have hxo : Only x w6 (w6.setCell ⟨x, 3, none⟩ (.slice A7 M c7)) := only_setCell (Only.refl x w6) (p := ⟨x, 3, none⟩) (Or.inl rfl) (.slice A7 M c7)
  have hown7 := hown6.noting hxo hx5
  rw [hM] at hown7
  have qf : (w6.setCell ⟨x, 3, none⟩ (.slice A7 M c7)).frozen? ⟨x, 4, none⟩ = false := by
    have := zf 4
    simpa using this
  replace hM := hide hM
  go_upto_region 3 with fail
  have hz7 : (w6.setCell ⟨x, 3, none⟩ (.slice A7 M c7)).heap.size = w6.heap.size := (World.size_setCell _ _ _)
  obtain ⟨W7, hW7⟩ : ∃ W7, w6.setCell ⟨x, 3, none⟩ (.slice A7 M c7) = W7 := ⟨_, rfl⟩
  rw [hW7] at q0 q1 q2 q3 q4 hs7 ho7 hown7 qf hz7 ⊢
  have hx7 : x < W7.heap.size := by omega
  obtain ⟨gg0, gg1, gg2, gg3, nn0⟩ := hCl0.only ho7 hgb hnb
  have hgb7 : gb < W7.heap.size := World.block_lt_of_cell? _ _ gg0
  have hnb7 : nb < W7.heap.size := World.block_lt_of_cell? _ _ nn0
  clear z0 z1 z2 z3 z4 zf zf3 hs6 ho6 hown6 hxo hW7
  go_wp2_with fail
  refine (times_any B g line F fs c k4 pr4 d sl b m n W7 (ho7.std hS0 (by omega)) hs7 (hF0.only ho7 hB (by omega)) (by omega) (by omega) hB (by omega) (hsz k4)).mono ?_
  rintro e w8 ⟨k5, ts, v5, pr5, rfl, ht8, hs8, ho8, j5, e1, e2⟩
  replace e1 := hide e1
  replace e2 := hide e2
  have y0 := (ho8.cell hx7 hxg).trans q0
  have y1 := (ho8.cell hx7 hxg).trans q1
  have y2 := (ho8.cell hx7 hxg).trans q2
  have y3 := (ho8.cell hx7 hxg).trans q3
  have y4 := (ho8.cell hx7 hxg).trans q4
  have yf : w8.frozen? ⟨x, 4, none⟩ = false := (ho8.frozen hx7 hxg).trans qf
  have hz8 := ho8.size
  have hx8 : x < w8.heap.size := by omega
  have hown8 := hown7.noting ho8 (by omega)
  have hoo8 : Only g W0 w8 := ho7.trans ho8
  obtain ⟨A9, c9, rfl⟩ := owns_form ht8
  obtain ⟨T, hT⟩ : ∃ T, ts.length = T := ⟨_, rfl⟩
  rw [hT]
  have p0 : (w8.setCell ⟨x, 4, none⟩ (.slice A9 T c9)).cell? ⟨x, 0, none⟩ = some (.string t0) := (World.cell?_setCell_other _ _ _ _ (by simp)).trans y0
  have p1 : (w8.setCell ⟨x, 4, none⟩ (.slice A9 T c9)).cell? ⟨x, 1, none⟩ = some (.string t1) := (World.cell?_setCell_other _ _ _ _ (by simp)).trans y1
  have p2 : (w8.setCell ⟨x, 4, none⟩ (.slice A9 T c9)).cell? ⟨x, 2, none⟩ = some (.int .i64 (nn : Int)) := (World.cell?_setCell_other _ _ _ _ (by simp)).trans y2
  have p3 : (w8.setCell ⟨x, 4, none⟩ (.slice A9 T c9)).cell? ⟨x, 3, none⟩ = some (.slice A7 M c7) := (World.cell?_setCell_other _ _ _ _ (by simp)).trans y3
  have p4 : (w8.setCell ⟨x, 4, none⟩ (.slice A9 T c9)).cell? ⟨x, 4, none⟩ = some (.slice A9 T c9) := World.cell?_setCell_same _ _ _ y4
  have hs9 := scan_set (j := 4) (u := .slice A9 T c9) hs8 y0 hxg
  have ho9 : Only g W0 (w8.setCell ⟨x, 4, none⟩ (.slice A9 T c9)) := only_setCell hoo8 (Or.inr hWx) _
  have hxo : Only x w8 (w8.setCell ⟨x, 4, none⟩ (.slice A9 T c9)) := only_setCell (Only.refl x w8) (p := ⟨x, 4, none⟩) (Or.inl rfl) (.slice A9 T c9)
  have hown9 := hown8.noting hxo hx5
  rw [hT] at ht8
  have ht9 := times_noting ht8 hxo hx7
  replace hT := hide hT
  have hw9 := hw0.below (ho9.below (Nat.le_refl _) (by omega))
  go_upto_region 4 with fail
  have hz9 : (w8.setCell ⟨x, 4, none⟩ (.slice A9 T c9)).heap.size = w8.heap.size := (World.size_setCell _ _ _)
  obtain ⟨W9, hW9⟩ : ∃ W9, w8.setCell ⟨x, 4, none⟩ (.slice A9 T c9) = W9 := ⟨_, rfl⟩
  rw [hW9] at p0 p1 p2 p3 p4 hs9 ho9 hown9 ht9 hw9 hz9 ⊢
  clear y0 y1 y2 y3 y4 yf hs8 ho8 hoo8 hxo hown8 ht8 hW9 q0 q1 q2 q3 q4 hs7 ho7 hown7 qf gg0 gg1 gg2 gg3 nn0
  have hx9 : x < W9.heap.size := by omega
  have hhas := rhas_walk A ls cr t0 x W9 (by omega) hw9.any p0
  obtain ⟨q, hqq⟩ : ∃ q, ls.length = q := ⟨_, rfl⟩
  rw [hqq] at hhas ⊢
  have key : Hid (∀ prx : Option Prob, noted pr5 (decide (0 ≤ idxS t0 (codesR ls))) (line, 0, 11) = prx → noted prx (decide (16 ≤ q)) (line, 0, 2) = roomP d sl b m n line fs ls ∧ (roomP d sl b m n line fs ls = none → (t0, t1, (nn : Int), ascS l, ts) = roomOf d sl b m n fs)) := hide fun prx h1 => by
    rw [← h1, ← hqq]
    exact room_steps a1.out b1.out b2.out c1.out c2.out d1.out d2.out e1.out e2.out
  rw [hqq] at hq
  clear hw9 a1 b1 b2 c1 c2 d1 d2 e1 e2 hw0
  replace hqq := hide hqq
  go_wp2_with fail
  refine hhas.mono ?_
  rintro e w10 ⟨rfl, hb10⟩
  replace p0 := cell_later hb10 p0
  replace p1 := cell_later hb10 p1
  replace p2 := cell_later hb10 p2
  replace p3 := cell_later hb10 p3
  replace p4 := cell_later hb10 p4
  have hs10 := hs9.later hb10
  have ho10 : Only g W0 w10 := Only.later ho9 hb10
  have hown10 := hown9.later hb10
  have ht10 := times_later ht9 hb10
  have hz10 := hb10.size
  have hx10 : x < w10.heap.size := by omega
  clear hs9 ho9 hown9 ht9 hb10 hhas
  go_wp2_with fail
  refine (whole_walk g line F fs.length c k5 pr5 _ 11 w10 hs10).mono ?_
  rintro e w11 ⟨rfl, hs11, ho11⟩
  replace p0 := (ho11.cell hx10 hxg).trans p0
  replace p1 := (ho11.cell hx10 hxg).trans p1
  replace p2 := (ho11.cell hx10 hxg).trans p2
  replace p3 := (ho11.cell hx10 hxg).trans p3
  replace p4 := (ho11.cell hx10 hxg).trans p4
  have hown11 := hown10.noting ho11 (by omega)
  have ht11 := times_noting ht10 ho11 (by omega)
  have hoo11 : Only g W0 w11 := ho10.trans ho11
  have hz11 := ho11.size
  have hx11 : x < w11.heap.size := by omega
  obtain ⟨prx, hprx⟩ : ∃ prx, noted pr5 (decide (0 ≤ idxS t0 (codesR ls))) (line, 0, 11) = prx := ⟨_, rfl⟩
  rw [hprx] at hs11
  have hkey := hide (key.out prx hprx)
  clear hs10 ho10 hown10 ht10 ho11 key hprx
  go_wp2_with fail
  refine (whole_walk g line F fs.length c k5 prx _ 2 w11 hs11).mono ?_
  rintro e w12 ⟨rfl, hs12, ho12⟩
  replace p0 := (ho12.cell hx11 hxg).trans p0
  replace p1 := (ho12.cell hx11 hxg).trans p1
  replace p2 := (ho12.cell hx11 hxg).trans p2
  replace p3 := (ho12.cell hx11 hxg).trans p3
  replace p4 := (ho12.cell hx11 hxg).trans p4
  have hown12 := hown11.noting ho12 (by omega)
  have ht12 := times_noting ht11 ho12 (by omega)
  have hoo12 : Only g W0 w12 := hoo11.trans ho12
  rw [show decide ((q : Int) ≥ 16) = decide (16 ≤ q) from decide_eq_decide.2 (by omega), hkey.out.1] at hs12
  have hfin := hide hkey.out.2
  obtain ⟨s0, s1, s2, s3, s4⟩ := hr5'.out
  simp only [Nat.zero_add] at s0 s1 s2 s3 s4
  replace s0 := (hoo12.cell hrl hrg).trans s0
  replace s1 := (hoo12.cell hrl hrg).trans s1
  replace s2 := (hoo12.cell hrl hrg).trans s2
  replace s3 := (hoo12.cell hrl hrg).trans s3
  replace s4 := (hoo12.cell hrl hrg).trans s4
  have g0 := (hoo12.frozen hrl hrg).trans (f0.out 0)
  have g1 := (hoo12.frozen hrl hrg).trans (f0.out 1)
  have g2 := (hoo12.frozen hrl hrg).trans (f0.out 2)
  have g3 := (hoo12.frozen hrl hrg).trans (f0.out 3)
  have g4 := (hoo12.frozen hrl hrg).trans (f0.out 4)
  replace hs12 := hide hs12
  replace hoo12 := hide hoo12
  clear hs11 hoo11 hown11 ht11 ho12 hkey
  go_wp2
  obtain ⟨d0, d1, d2, d3, d4⟩ := set5_cells (a := .string t0) (b := .string t1) (c := .int .i64 (nn : Int)) (d := .slice A7 M c7) (e := .slice A9 T c9) s0 s1 s2 s3 s4
  have hro : Only r w12 (set5 w12 r (.string t0) (.string t1) (.int .i64 (nn : Int)) (.slice A7 M c7) (.slice A9 T c9)) := set5_only (Only.refl r w12) (Or.inl rfl)
  have hbz : w.heap.size = r := hr.out
  refine end_room rfl r (.string t0) (.string t1) (.int .i64 (nn : Int)) (.slice A7 M c7) (.slice A9 T c9) rfl rfl d0 d1 d2 d3 d4 ⟨t0, t1, nn, l, ts, _, _, k5, rfl, ?_, ?_, set5_scan hs12.out s0 hrg, hfin.out, ?_⟩
  · exact Own.lower (hown12.noting hro (by omega)) (by omega)
  · exact owns_lower (times_noting ht12 hro (by omega)) (by omega)
  · exact set5_only (how.trans hoo12.out) (Or.inr (Nat.le_of_eq hbz))
end Go.Proofs.YtnbcaklnpflihaaGreatDoor

namespace Go.Proofs.YtnbcaklnpflihaaGreatDoor
open Go.RowKit
set_option maxRecDepth 100000

theorem end_room3 {fn : Func} {p u v : Tmp} (hr : fn.results = #[.cell p 47, .tmp u, .tmp v]) {Q : Ending → World → Prop} {act : Act} {w : World} (g : Nat) (a b c d e x y : Value) (hd : act.defers = [])
    (hp : act.tmps.getD p undef = .pointer (some ⟨g, 0, none⟩)) (hx : act.tmps.getD u undef = x) (hy : act.tmps.getD v undef = y)
    (h0 : w.cell? ⟨g, 0, none⟩ = some a) (h1 : w.cell? ⟨g, 1, none⟩ = some b) (h2 : w.cell? ⟨g, 2, none⟩ = some c) (h3 : w.cell? ⟨g, 3, none⟩ = some d) (h4 : w.cell? ⟨g, 4, none⟩ = some e)
    (hQ : Q (.returned (.tuple #[.agg #[a, b, c, d, e], x, y])) w) : bodyPost Tryz.prog fn Q .ret act w := by
  refine bodyPost_ret (v := .tuple #[.agg #[a, b, c, d, e], x, y]) ?_ hd hQ
  simp only [results, hr]
  simp [Sem.run_bind, Result.andThen, -Array.getD_eq_getD_getElem?]
  rw [hp, hx, hy]
  simp only [asAddr, Sem.run_pure]
  rw [load5 w g a b c d e h0 h1 h2 h3 h4]
def OneRmGives (d sl b m n : Int) (fs : List Fld) (ls : List Room) (w : World) (e : Ending) (w' : World) : Prop :=
  ∃ (z bl : ByteArray) (nn : Int) (l : List ByteArray) (ts : List T4) (v3 v4 : Value), e = .returned (.tuple #[.agg #[.string z, .string bl, .int .i64 nn, v3, v4], .int .i64 (roomKE d sl b m n fs ls).1, .int .i64 (roomKE d sl b m n fs ls).2]) ∧
    Own kStr 9 [] 0 w.heap.size w' v3 l ∧ TimesOwn w.heap.size w' v4 ts ∧ ((roomKE d sl b m n fs ls).2 = 0 → (z, bl, nn, l, ts) = roomOf d sl b m n fs) ∧ Below w.heap.size w w'
theorem below_set5 {w0 W : World} {r B : Nat} {a b c d e : Value} (h : Below B w0 W) (hr : B ≤ r) : Below B w0 (set5 W r a b c d e) :=
  ((((h.setCell (p := ⟨r, 0, none⟩) hr _).setCell (p := ⟨r, 1, none⟩) hr _).setCell (p := ⟨r, 2, none⟩) hr _).setCell (p := ⟨r, 3, none⟩) hr _).setCell (p := ⟨r, 4, none⟩) hr _
/-- What a return of the function leaves. -/
theorem room_fin {d sl b m n : Int} {fs : List Fld} {ls : List Room} {w W : World} {q B : Nat} {z bl : ByteArray} {nn k e : Int} {l : List ByteArray} {ts : List T4} {v3 v4 : Value}
    (hk : roomKE d sl b m n fs ls = (k, e)) (h3 : Own kStr 9 [] 0 B W v3 l) (h4 : TimesOwn B W v4 ts) (he : e = 0 → (z, bl, nn, l, ts) = roomOf d sl b m n fs) (hb : Below w.heap.size w W) (hq : w.heap.size ≤ q) (hB : q < B) (_hqW : q < W.heap.size) :
    OneRmGives d sl b m n fs ls w (.returned (.tuple #[.agg #[.string z, .string bl, .int .i64 nn, v3, v4], .int .i64 k, .int .i64 e])) (set5 W q (.string z) (.string bl) (.int .i64 nn) v3 v4) := by
  have ho : Only q W (set5 W q (.string z) (.string bl) (.int .i64 nn) v3 v4) := set5_only (Only.refl q W) (Or.inl rfl)
  unfold OneRmGives
  rw [hk]
  exact ⟨z, bl, nn, l, ts, v3, v4, rfl, (h3.noting ho hB).lower (by omega), owns_lower (times_noting h4 ho hB) (by omega), he, below_set5 hb hq⟩
theorem oner_drew {d sl b m n : Int} {fs : List Fld} {ls : List Room} {w W : World} {e : Ending} (h : OneRmGives d sl b m n fs ls w e W) : OneRmGives d sl b m n fs ls w e W.drew := by
  obtain ⟨z, bl, nn, l, ts, v3, v4, he, h3, h4, hk, hb⟩ := h
  exact ⟨z, bl, nn, l, ts, v3, v4, he, h3.drew, times_later h4 (ext_drew (Below.refl _ _)), hk, ext_drew hb⟩
def RTimesCut (wr : World) (d sl b m : Int) (t4 : ByteArray) (fb fo g rb : Nat) (ee n : Int) (e : Ending) (w' : World) : Prop :=
  ∃ (ts : List T4) (A9 : Option Addr) (n9 c9 : Nat), e = .returned (.tuple #[.slice A9 n9 c9, .int .i64 ee]) ∧ TimesOwn wr.heap.size w' (.slice A9 n9 c9) ts ∧ (ee = 0 → ts = (partsOf t4).map (pieceV d sl b m n)) ∧ Below wr.heap.size wr w' ∧ Cn5 fb ((fo + 12)) (.string t4) ((g + 1)) 0 (.int .i64 d) ((g + 1)) 1 (.int .i64 sl) ((g + 1)) 2 (.int .i64 b) ((g + 1)) 3 (.int .i64 m) w' ∧ w'.cell? ⟨rb, 4, none⟩ = some (.slice none 0 0) ∧ w'.frozen? ⟨rb, 4, none⟩ = false
set_option maxHeartbeats 8000000 in
theorem r7one_walk (d sl b m n line : Int) (F : Option Addr) (fs : List Fld) (c : Nat) (A : Option Addr) (ls : List Room) (cr : Nat) (w : World) (hS : Std w) (hW : Wds w) (hD : Dys w)
    (hF : FieldsAt w.heap.size w F fs) (hq : ls.length ≤ 16) (hs : ∀ f ∈ fs, f.1.size < 1073741824) (hX : At kRoom (· < w.heap.size) w A ls) :
    Calls Tryz.prog 19 #[.agg #[.int .i64 line, .slice F fs.length c], .agg #[.int .i64 d, .int .i64 sl, .int .i64 b, .int .i64 m], .int .i64 n, .slice A ls.length cr] w fun e w' => OneRmGives d sl b m n fs ls w e w' := by
  by_cases hm : fs.length = 5
  · obtain ⟨fb, fo, rfl, hfb, hfc⟩ := hF (by omega)
    have hk : ∀ k, (h : k < fs.length) → w.cell? ⟨fb, fo + k * 3, none⟩ = some (.string (textAt fs k)) := fun k h => by
      have := (hfc k h).1
      rwa [textC_at] at this
    have f0 := hk 0 (by omega)
    have f1 := hk 1 (by omega)
    have f2 := hk 2 (by omega)
    have f3 := hk 3 (by omega)
    have f4 := hk 4 (by omega)
    rw [Nat.zero_mul, Nat.add_zero] at f0
    rw [Nat.one_mul] at f1
    rw [show 2 * 3 = 6 from rfl] at f2
    rw [show 3 * 3 = 9 from rfl] at f3
    rw [show 4 * 3 = 12 from rfl] at f4
    have hs2 : ∀ k, k < fs.length → (textAt fs k).size < 1073741824 := fun k h => by rw [← textC_at h]; exact hs _ (List.getElem_mem _)
    have hs3 := hs2 3 (by omega)
    have hs4 := hs2 4 (by omega)
    have hm2 : ((fs.length : Int) != 5) = false := by simp; omega
    obtain ⟨t0, ht0⟩ : ∃ t0, textAt fs 0 = t0 := ⟨_, rfl⟩
    obtain ⟨t1, ht1⟩ : ∃ t1, textAt fs 1 = t1 := ⟨_, rfl⟩
    obtain ⟨t2, ht2⟩ : ∃ t2, textAt fs 2 = t2 := ⟨_, rfl⟩
    obtain ⟨t3, ht3⟩ : ∃ t3, textAt fs 3 = t3 := ⟨_, rfl⟩
    obtain ⟨t4, ht4⟩ : ∃ t4, textAt fs 4 = t4 := ⟨_, rfl⟩
    have hKE : Hid (roomKE d sl b m n fs ls = (if codeB t0 = false then (0, 10) else if codeB t1 = false then (1, 10) else if numS 4 t2 = none then (2, 4) else if (shortV t3).1 ≠ 0 then (3, ((shortV t3).1 : Int)) else if timesE d sl b m n (partsOf t4) ≠ 0 then (4, timesE d sl b m n (partsOf t4)) else if 0 ≤ idxS t0 (codesR ls) then (-1, 11) else if ls.length = 16 then (-1, 2) else (0, 0))) := by
      refine hide ?_; unfold roomKE; rw [if_neg (show ¬ fs.length ≠ 5 from fun h => h hm), ht0, ht1, ht2, ht3, ht4]
    have hOf : Hid (roomOf d sl b m n fs = (t0, t1, (((numE 4 t2).getD 0 : Nat) : Int), ascS (listV t3).2, (partsOf t4).map (pieceV d sl b m n))) := by
      refine hide ?_; unfold roomOf; rw [ht0, ht1, ht2, ht3, ht4]
    rw [ht0] at f0
    rw [ht1] at f1
    rw [ht2] at f2
    rw [ht3] at f3 hs3
    rw [ht4] at f4 hs4
    clear ht0 ht1 ht2 ht3 ht4 hfc hF hs hk hs2
    have hU4 := heap3c w (.cells #[.int .i64 line, .slice (some ⟨fb, fo, none⟩) fs.length c] 27) (.cells #[.int .i64 d, .int .i64 sl, .int .i64 b, .int .i64 m] 24) (.cells #[.string ⟨#[]⟩, .string ⟨#[]⟩, .int .i64 0, .slice none 0 0, .slice none 0 0] 47)
    have hbU : Below w.heap.size w (((w.alloc (.cells #[.int .i64 line, .slice (some ⟨fb, fo, none⟩) fs.length c] 27)).alloc (.cells #[.int .i64 d, .int .i64 sl, .int .i64 b, .int .i64 m] 24)).alloc (.cells #[.string ⟨#[]⟩, .string ⟨#[]⟩, .int .i64 0, .slice none 0 0, .slice none 0 0] 47)) := (by repeat (first | exact Below.refl _ _ | refine ext_alloc ?_ _ | refine ext_drewN ?_ _ | refine ext_drew ?_ | refine ext_trans ?_ (by assumption)))
    obtain ⟨U, hU⟩ : ∃ U, ((w.alloc (.cells #[.int .i64 line, .slice (some ⟨fb, fo, none⟩) fs.length c] 27)).alloc (.cells #[.int .i64 d, .int .i64 sl, .int .i64 b, .int .i64 m] 24)).alloc (.cells #[.string ⟨#[]⟩, .string ⟨#[]⟩, .int .i64 0, .slice none 0 0, .slice none 0 0] 47) = U := ⟨_, rfl⟩
    rw [hU] at hbU hU4
    obtain ⟨u1, u2, u3⟩ := hU4
    have hzU : w.heap.size + 2 < U.heap.size := blk_lt u3
    have o1 : U.cell? ⟨w.heap.size, 1, none⟩ = some (.slice (some ⟨fb, fo, none⟩) fs.length c) := (cell_of_row U _ _ _ _ _ u1).trans rfl
    have g0 : U.cell? ⟨w.heap.size + 1, 0, none⟩ = some (.int .i64 d) := (cell_of_row U _ _ _ _ _ u2).trans rfl
    have g1 : U.cell? ⟨w.heap.size + 1, 1, none⟩ = some (.int .i64 sl) := (cell_of_row U _ _ _ _ _ u2).trans rfl
    have g2 : U.cell? ⟨w.heap.size + 1, 2, none⟩ = some (.int .i64 b) := (cell_of_row U _ _ _ _ _ u2).trans rfl
    have g3 : U.cell? ⟨w.heap.size + 1, 3, none⟩ = some (.int .i64 m) := (cell_of_row U _ _ _ _ _ u2).trans rfl
    have x0 : U.cell? ⟨w.heap.size + 2, 0, none⟩ = some (.string ⟨#[]⟩) := (cell_of_row U _ _ _ _ _ u3).trans rfl
    have x1 : U.cell? ⟨w.heap.size + 2, 1, none⟩ = some (.string ⟨#[]⟩) := (cell_of_row U _ _ _ _ _ u3).trans rfl
    have x2 : U.cell? ⟨w.heap.size + 2, 2, none⟩ = some (.int .i64 0) := (cell_of_row U _ _ _ _ _ u3).trans rfl
    have x3 : U.cell? ⟨w.heap.size + 2, 3, none⟩ = some (.slice none 0 0) := (cell_of_row U _ _ _ _ _ u3).trans rfl
    have x4 : U.cell? ⟨w.heap.size + 2, 4, none⟩ = some (.slice none 0 0) := (cell_of_row U _ _ _ _ _ u3).trans rfl
    have xf : ∀ j, U.frozen? ⟨w.heap.size + 2, j, none⟩ = false := fun j => by simp [World.frozen?, u3]
    clear u1 u2 u3
    have k0 := (hbU.cell (p := ⟨fb, _, none⟩) hfb).trans f0
    have k1 := (hbU.cell (p := ⟨fb, _, none⟩) hfb).trans f1
    have k2 := (hbU.cell (p := ⟨fb, _, none⟩) hfb).trans f2
    have k3 := (hbU.cell (p := ⟨fb, _, none⟩) hfb).trans f3
    have k4 := (hbU.cell (p := ⟨fb, _, none⟩) hfb).trans f4
    have hfbU : fb < U.heap.size := by omega
    have hl0 : 0 < fs.length := by omega
    have hl1 : 1 < fs.length := by omega
    have hl2 : 2 < fs.length := by omega
    have hl3 : 3 < fs.length := by omega
    have hl4 : 4 < fs.length := by omega
    have hi1 : (1 : Int) < (fs.length : Int) := by omega
    have hi2 : (2 : Int) < (fs.length : Int) := by omega
    have hi3 : (3 : Int) < (fs.length : Int) := by omega
    have hi4 : (4 : Int) < (fs.length : Int) := by omega
    replace hm := hide hm
    replace hU := hide hU
    replace xf := hide xf
    have hxx := hide (And.intro x0 (And.intro x1 (And.intro x2 (And.intro x3 x4))))
    have hgg := hide (And.intro g0 (And.intro g1 (And.intro g2 g3)))
    have hkk := hide (And.intro k2 (And.intro k3 k4))
    clear f1 f2 f3 f4 x0 x1 x2 x3 x4 g0 g1 g2 g3 k2 k3 k4
    go_enter Tryz.func19, Tryz.ntmps19
    go_wp2_with fail
    rw [hU.out]
    obtain ⟨q, hq2⟩ : ∃ q, w.heap.size + 1 + 1 = q := ⟨_, rfl⟩
    rw [hq2]
    replace hq2 := hide hq2
    go_region
    have hbV : Below w.heap.size w (U.alloc (.cells #[.string t0, .string t1, .int .i64 0, .slice none 0 0, .slice none 0 0] 47)).drew := ext_drew (ext_alloc hbU _)
    have hUV : Below U.heap.size U (U.alloc (.cells #[.string t0, .string t1, .int .i64 0, .slice none 0 0, .slice none 0 0] 47)).drew := ext_drew (ext_alloc (Below.refl _ _) _)
    have hF5 := five_new U ⟨t0, t1, 0, none, 0, 0, none, 0, 0⟩ 47
    have bf : ∀ j, (U.alloc (.cells #[.string t0, .string t1, .int .i64 0, .slice none 0 0, .slice none 0 0] 47)).drew.frozen? ⟨U.heap.size, j, none⟩ = false := fun j => by
      show (U.alloc (.cells #[.string t0, .string t1, .int .i64 0, .slice none 0 0, .slice none 0 0] 47)).frozen? ⟨U.heap.size, j, none⟩ = false
      simp
    have hzV : (U.alloc (.cells #[.string t0, .string t1, .int .i64 0, .slice none 0 0, .slice none 0 0] 47)).drew.heap.size = U.heap.size + 1 := World.size_alloc _ _
    obtain ⟨V, hV⟩ : ∃ V, (U.alloc (.cells #[.string t0, .string t1, .int .i64 0, .slice none 0 0, .slice none 0 0] 47)).drew = V := ⟨_, rfl⟩
    have hF6 : FiveAt V U.heap.size 0 ⟨t0, t1, 0, none, 0, 0, none, 0, 0⟩ := by rw [← hV]; exact hF5
    rw [hV] at hbV hUV bf hzV ⊢
    clear hF5 hV
    obtain ⟨b0, b1, b2, b3, b4⟩ := hF6
    simp only [Nat.zero_add] at b0 b1 b2 b3 b4
    obtain ⟨x0, x1, x2, x3, x4⟩ := hxx.out
    replace x0 := cell_later hUV x0
    replace x1 := cell_later hUV x1
    replace x2 := cell_later hUV x2
    replace x3 := cell_later hUV x3
    replace x4 := cell_later hUV x4
    have xfV : ∀ j, V.frozen? ⟨w.heap.size + 2, j, none⟩ = false := fun j => (hUV.frozen (p := ⟨w.heap.size + 2, j, none⟩) hzU).trans (xf.out j)
    obtain ⟨k2, k3, k4⟩ := hkk.out
    replace k2 := cell_later hUV k2
    replace k3 := cell_later hUV k3
    replace k4 := cell_later hUV k4
    obtain ⟨g0, g1, g2, g3⟩ := hgg.out
    replace g0 := cell_later hUV g0
    replace g1 := cell_later hUV g1
    replace g2 := cell_later hUV g2
    replace g3 := cell_later hUV g3
    have hgk := hide (And.intro g0 (And.intro g1 (And.intro g2 (And.intro g3 (And.intro k3 k4)))))
    obtain ⟨rb, hrb⟩ : ∃ rb, U.heap.size = rb := ⟨_, rfl⟩
    rw [hrb] at b0 b1 b2 b3 b4 bf hzV hzU hfbU ⊢
    have hqg : w.heap.size + 2 = q := hq2.out
    rw [hqg] at x0 x1 x2 x3 x4 xfV hzU
    obtain ⟨g, hg⟩ : ∃ g, w.heap.size = g := ⟨_, rfl⟩
    have xq0 := xfV 0
    have xq1 := xfV 1
    have xq2 := xfV 2
    have xq3 := xfV 3
    have xq4 := xfV 4
    have bf2 := bf 2
    have bf3 := bf 3
    have bf4 := bf 4
    have hgq : w.heap.size ≤ q := by omega
    have hqV : q < V.heap.size := by omega
    have hrV : rb < V.heap.size := by omega
    have hqr : q ≠ rb := by omega
    have hfr : fb ≠ rb := by omega
    have hfV : fb < V.heap.size := by omega
    have hgr : w.heap.size + 1 ≠ rb := by omega
    have hgV : w.heap.size + 1 < V.heap.size := by omega
    replace hq2 := hide hq2.out
    replace hg := hide hg
    clear f0 k0 k1 o1 hU xf hxx hgg hkk xfV bf hbU hUV hqg k3 k4 g0 g1 g2 g3 hrb
    have hrk := roomKE
    clear hrk
    go_wp2_with fail
    refine (r3valid_walk t0 _).mono ?_
    rintro e w1 ⟨rfl, rfl⟩
    cases hv0 : codeB t0
    · have hK : Hid (roomKE d sl b m n fs ls = (0, 10)) := hide (by rw [hKE.out, hv0, if_pos rfl])
      clear hKE hOf hv0
      go_wp2
      obtain ⟨c0, c1, c2, c3, c4⟩ := set5_cells (a := .string t0) (b := .string t1) (c := .int .i64 0) (d := .slice none 0 0) (e := .slice none 0 0) x0 x1 x2 x3 x4
      exact end_room3 rfl q _ _ _ _ _ _ _ rfl rfl rfl rfl c0 c1 c2 c3 c4 (room_fin (B := V.heap.size) (l := []) (ts := []) hK.out Own.nil (World.ownsRow_nil _ _ _ _) (fun h => by cases h) hbV hgq hqV hqV)
    · have hKE1 := hKE.out
      rw [hv0, if_neg (by decide)] at hKE1
      replace hKE1 := hide hKE1
      clear hKE hv0
      go_wp2_with fail
      refine (r3valid_walk t1 _).mono ?_
      rintro e w1 ⟨rfl, rfl⟩
      cases hv1 : codeB t1
      · have hK : Hid (roomKE d sl b m n fs ls = (1, 10)) := hide (by rw [hKE1.out, hv1, if_pos rfl])
        clear hKE1 hOf hv1
        go_wp2
        obtain ⟨c0, c1, c2, c3, c4⟩ := set5_cells (a := .string t0) (b := .string t1) (c := .int .i64 0) (d := .slice none 0 0) (e := .slice none 0 0) x0 x1 x2 x3 x4
        exact end_room3 rfl q _ _ _ _ _ _ _ rfl rfl rfl rfl c0 c1 c2 c3 c4 (room_fin (B := V.heap.size) (l := []) (ts := []) hK.out Own.nil (World.ownsRow_nil _ _ _ _) (fun h => by cases h) hbV hgq hqV hqV)
      · have hKE2 := hKE1.out
        rw [hv1, if_neg (by decide)] at hKE2
        replace hKE2 := hide hKE2
        clear hKE1 hv1
        go_wp2_with fail
        refine (r3digitsT_walk t2 4 (by decide) _).mono ?_
        rintro e w1 ⟨rfl, rfl⟩
        cases hn : numS 4 t2 with
        | none =>
          have hK : Hid (roomKE d sl b m n fs ls = (2, 4)) := hide (by rw [hKE2.out, hn, if_pos rfl])
          have hz := numZ_numS.2 hn
          clear hKE2 hOf hn
          rcases hz with hz | hz
          · rw [hz, show digV none = .tuple #[.int .i64 0, .bool false] from rfl]
            clear hz
            go_wp2
            obtain ⟨c0, c1, c2, c3, c4⟩ := set5_cells (a := .string t0) (b := .string t1) (c := .int .i64 0) (d := .slice none 0 0) (e := .slice none 0 0) x0 x1 x2 x3 x4
            exact end_room3 rfl q _ _ _ _ _ _ _ rfl rfl rfl rfl c0 c1 c2 c3 c4 (room_fin (B := V.heap.size) (l := []) (ts := []) hK.out Own.nil (World.ownsRow_nil _ _ _ _) (fun h => by cases h) hbV hgq hqV hqV)
          · rw [hz, show digV (some 0) = .tuple #[.int .i64 0, .bool true] from rfl]
            clear hz
            go_wp2
            obtain ⟨c0, c1, c2, c3, c4⟩ := set5_cells (a := .string t0) (b := .string t1) (c := .int .i64 0) (d := .slice none 0 0) (e := .slice none 0 0) x0 x1 x2 x3 x4
            exact end_room3 rfl q _ _ _ _ _ _ _ rfl rfl rfl rfl c0 c1 c2 c3 c4 (room_fin (B := V.heap.size) (l := []) (ts := []) hK.out Own.nil (World.ownsRow_nil _ _ _ _) (fun h => by cases h) hbV hgq hqV hqV)
        | some nv =>
          have hz := numS_some hn
          have hOf1 : Hid (roomOf d sl b m n fs = (t0, t1, (nv : Int), ascS (listV t3).2, (partsOf t4).map (pieceV d sl b m n))) := hide (by rw [hOf.out, show numE 4 t2 = some nv from (numS_numE hn)]; rfl)
          have hKE3 := hKE2.out
          rw [hn, if_neg (by simp)] at hKE3
          replace hKE3 := hide hKE3
          obtain ⟨hz1, hz2⟩ := hz
          rw [hz1, show digV (some nv) = .tuple #[.int .i64 (nv : Int), .bool true] from rfl]
          have hni : ((nv : Int) == 0) = false := by simp; omega
          have hni2 : ¬ (nv : Int) = 0 := by omega
          clear hKE2 hOf hn hz1 hz2
          obtain ⟨V2, hV2⟩ : ∃ V2, V.setCell ⟨rb, 2, none⟩ (.int .i64 (nv : Int)) = V2 := ⟨_, rfl⟩
          have hbV2 : Below w.heap.size w V2 := by rw [← hV2]; exact hbV.setCell (p := ⟨rb, 2, none⟩) (by show w.heap.size ≤ rb; omega) _
          have hsz2 : V2.heap.size = V.heap.size := by rw [← hV2]; exact World.size_setCell _ _ _
          have oth : ∀ (y o : Nat), y ≠ rb → V2.cell? ⟨y, o, none⟩ = V.cell? ⟨y, o, none⟩ := fun y o h => by rw [← hV2]; exact World.cell?_setCell_other _ _ _ _ (by intro e; injection e with e1 _; exact h e1.symm)
          replace x0 := (oth q 0 hqr).trans x0
          replace x1 := (oth q 1 hqr).trans x1
          replace x2 := (oth q 2 hqr).trans x2
          replace x3 := (oth q 3 hqr).trans x3
          replace x4 := (oth q 4 hqr).trans x4
          obtain ⟨g0, g1, g2, g3, k3, k4⟩ := hgk.out
          replace g0 := (oth _ _ hgr).trans g0
          replace g1 := (oth _ _ hgr).trans g1
          replace g2 := (oth _ _ hgr).trans g2
          replace g3 := (oth _ _ hgr).trans g3
          replace k4 := (oth _ _ hfr).trans k4
          have fz : ∀ p, V2.frozen? p = V.frozen? p := fun p => by rw [← hV2, World.frozen?_setCell]
          have d0 : V2.cell? ⟨rb, 0, none⟩ = some (.string t0) := by rw [← hV2]; exact (World.cell?_setCell_other _ _ _ _ (by simp)).trans b0
          have d1 : V2.cell? ⟨rb, 1, none⟩ = some (.string t1) := by rw [← hV2]; exact (World.cell?_setCell_other _ _ _ _ (by simp)).trans b1
          have d2 : V2.cell? ⟨rb, 2, none⟩ = some (.int .i64 (nv : Int)) := by rw [← hV2]; exact World.cell?_setCell_same _ _ _ b2
          have d3 : V2.cell? ⟨rb, 3, none⟩ = some (.slice none 0 0) := by rw [← hV2]; exact (World.cell?_setCell_other _ _ _ _ (by simp)).trans b3
          have d4 : V2.cell? ⟨rb, 4, none⟩ = some (.slice none 0 0) := by rw [← hV2]; exact (World.cell?_setCell_other _ _ _ _ (by simp)).trans b4
          replace xq0 := (fz _).trans xq0
          replace xq1 := (fz _).trans xq1
          replace xq2 := (fz _).trans xq2
          replace xq3 := (fz _).trans xq3
          replace xq4 := (fz _).trans xq4
          have df3 := (fz _).trans bf3
          have df4 := (fz _).trans bf4
          replace d0 := hide d0
          replace hV2 := hide hV2
          clear fz oth hgk bf3 bf4
          have hcS := r7short_walk t3 V2 (hS.after hbV2) hs3
          have hsl := short_len t3
          have hso := fun h => short_ok (t := t3) h
          obtain ⟨⟨s3, l3⟩, hsv⟩ : ∃ r, shortV t3 = r := ⟨_, rfl⟩
          have hKE4 := hKE3.out
          rw [hsv] at hcS hsl hso hKE4
          dsimp only at hsl hso hKE4
          replace hKE4 := hide hKE4
          replace hso := hide hso
          replace hsl := hide hsl
          clear hsv hKE3
          go_wp2_with fail
          rw [hV2.out]
          refine hcS.mono ?_
          rintro e w5 ⟨v, rfl, hown, hb5⟩
          dsimp only at hown ⊢
          obtain ⟨A6, c6, rfl⟩ := hown.form
          have hat := hown.any'
          have hq5 : q < w5.heap.size := by have := hb5.size; omega
          have hr5 : rb < w5.heap.size := by have := hb5.size; omega
          have hbw5 : Below w.heap.size w w5 := hbV2.trans (hb5.mono (by omega))
          replace x0 := cell_later hb5 x0
          replace x1 := cell_later hb5 x1
          replace x2 := cell_later hb5 x2
          replace x3 := cell_later hb5 x3
          replace x4 := cell_later hb5 x4
          replace g0 := cell_later hb5 g0
          replace g1 := cell_later hb5 g1
          replace g2 := cell_later hb5 g2
          replace g3 := cell_later hb5 g3
          replace k4 := cell_later hb5 k4
          have h0 := cell_later hb5 d0.out
          replace d1 := cell_later hb5 d1
          replace d2 := cell_later hb5 d2
          replace d3 := cell_later hb5 d3
          replace d4 := cell_later hb5 d4
          replace xq0 := (hb5.frozen (p := ⟨q, 0, none⟩) (by show q < V2.heap.size; omega)).trans xq0
          replace xq1 := (hb5.frozen (p := ⟨q, 1, none⟩) (by show q < V2.heap.size; omega)).trans xq1
          replace xq2 := (hb5.frozen (p := ⟨q, 2, none⟩) (by show q < V2.heap.size; omega)).trans xq2
          replace xq3 := (hb5.frozen (p := ⟨q, 3, none⟩) (by show q < V2.heap.size; omega)).trans xq3
          replace xq4 := (hb5.frozen (p := ⟨q, 4, none⟩) (by show q < V2.heap.size; omega)).trans xq4
          replace df3 := (hb5.frozen (p := ⟨rb, 3, none⟩) (by show rb < V2.heap.size; omega)).trans df3
          replace df4 := (hb5.frozen (p := ⟨rb, 4, none⟩) (by show rb < V2.heap.size; omega)).trans df4
          clear d0 k3 b0 b1 b2 b3 b4 bf2 hcS hV2 hbV
          by_cases h3 : s3 = 0
          · subst h3
            have hl8 := hsl.out rfl
            have hle := hso.out rfl
            have hOf2 : Hid (roomOf d sl b m n fs = (t0, t1, (nv : Int), ascS l3, (partsOf t4).map (pieceV d sl b m n))) := hide (by rw [hOf1.out, hle])
            have hKE5 := hKE4.out
            rw [if_neg (by simp)] at hKE5
            replace hKE5 := hide hKE5
            have hasc := r2asc_walk A6 l3 c6 w5 (by omega) hat.any
            obtain ⟨L3, hL3⟩ : ∃ L3, l3.length = L3 := ⟨_, rfl⟩
            rw [hL3] at hasc ⊢
            clear hKE4 hOf1 hso hsl hle hL3 hown hat hl8
            go_wp2_with fail
            refine hasc.mono ?_
            rintro e w6 ⟨v, rfl, hown6, hb6⟩
            obtain ⟨A7, c7, rfl⟩ := hown6.form
            have hq6 : q < w6.heap.size := by have := hb6.size; omega
            have hr6 : rb < w6.heap.size := by have := hb6.size; omega
            have hbw6 : Below w.heap.size w w6 := ext_trans hbw5 hb6
            replace x0 := cell_later hb6 x0
            replace x1 := cell_later hb6 x1
            replace x2 := cell_later hb6 x2
            replace x3 := cell_later hb6 x3
            replace x4 := cell_later hb6 x4
            replace g0 := cell_later hb6 g0
            replace g1 := cell_later hb6 g1
            replace g2 := cell_later hb6 g2
            replace g3 := cell_later hb6 g3
            replace k4 := cell_later hb6 k4
            replace h0 := cell_later hb6 h0
            replace d1 := cell_later hb6 d1
            replace d2 := cell_later hb6 d2
            replace d3 := cell_later hb6 d3
            replace d4 := cell_later hb6 d4
            replace xq0 := (hb6.frozen (p := ⟨q, 0, none⟩) (by show q < w5.heap.size; omega)).trans xq0
            replace xq1 := (hb6.frozen (p := ⟨q, 1, none⟩) (by show q < w5.heap.size; omega)).trans xq1
            replace xq2 := (hb6.frozen (p := ⟨q, 2, none⟩) (by show q < w5.heap.size; omega)).trans xq2
            replace xq3 := (hb6.frozen (p := ⟨q, 3, none⟩) (by show q < w5.heap.size; omega)).trans xq3
            replace xq4 := (hb6.frozen (p := ⟨q, 4, none⟩) (by show q < w5.heap.size; omega)).trans xq4
            replace df3 := (hb6.frozen (p := ⟨rb, 3, none⟩) (by show rb < w5.heap.size; omega)).trans df3
            replace df4 := (hb6.frozen (p := ⟨rb, 4, none⟩) (by show rb < w5.heap.size; omega)).trans df4
            obtain ⟨M, hM⟩ : ∃ M, (ascS l3).length = M := ⟨_, rfl⟩
            rw [hM] at hown6 ⊢
            obtain ⟨V7, hV7⟩ : ∃ V7, w6.setCell ⟨rb, 3, none⟩ (.slice A7 M c7) = V7 := ⟨_, rfl⟩
            have hb67 : Only rb w6 V7 := by rw [← hV7]; exact only_setCell (Only.refl rb w6) (p := ⟨rb, 3, none⟩) (Or.inl rfl) _
            have hown7 := hown6.noting hb67 hr5
            have hbw7 : Below w.heap.size w V7 := by rw [← hV7]; exact hbw6.setCell (p := ⟨rb, 3, none⟩) (by show w.heap.size ≤ rb; omega) _
            have hsz7 : V7.heap.size = w6.heap.size := by rw [← hV7]; exact World.size_setCell _ _ _
            have oth : ∀ (y o : Nat), y ≠ rb → V7.cell? ⟨y, o, none⟩ = w6.cell? ⟨y, o, none⟩ := fun y o h => by rw [← hV7]; exact World.cell?_setCell_other _ _ _ _ (by intro e; injection e with e1 _; exact h e1.symm)
            have oth2 : ∀ (o : Nat), o ≠ 3 → V7.cell? ⟨rb, o, none⟩ = w6.cell? ⟨rb, o, none⟩ := fun o h => by rw [← hV7]; exact World.cell?_setCell_other _ _ _ _ (by intro e; injection e with _ e2; exact h e2.symm)
            replace x0 := (oth q 0 hqr).trans x0
            replace x1 := (oth q 1 hqr).trans x1
            replace x2 := (oth q 2 hqr).trans x2
            replace x3 := (oth q 3 hqr).trans x3
            replace x4 := (oth q 4 hqr).trans x4
            replace g0 := (oth _ _ hgr).trans g0
            replace g1 := (oth _ _ hgr).trans g1
            replace g2 := (oth _ _ hgr).trans g2
            replace g3 := (oth _ _ hgr).trans g3
            replace k4 := (oth _ _ hfr).trans k4
            replace h0 := (oth2 _ (by decide)).trans h0
            replace d1 := (oth2 _ (by decide)).trans d1
            replace d2 := (oth2 _ (by decide)).trans d2
            have e3 : V7.cell? ⟨rb, 3, none⟩ = some (.slice A7 M c7) := by rw [← hV7]; exact World.cell?_setCell_same _ _ _ d3
            have e4 := (oth2 4 (by decide)).trans d4
            have fz : ∀ p, V7.frozen? p = w6.frozen? p := fun p => by rw [← hV7, World.frozen?_setCell]
            replace xq0 := (fz _).trans xq0
            replace xq1 := (fz _).trans xq1
            replace xq2 := (fz _).trans xq2
            replace xq3 := (fz _).trans xq3
            replace xq4 := (fz _).trans xq4
            replace df4 := (fz _).trans df4
            have hSL : Cn5 fb ((fo + 12)) (.string t4) ((w.heap.size + 1)) 0 (.int .i64 d) ((w.heap.size + 1)) 1 (.int .i64 sl) ((w.heap.size + 1)) 2 (.int .i64 b) ((w.heap.size + 1)) 3 (.int .i64 m) V7 := ⟨k4, g0, g1, g2, g3⟩
            have hr7 : rb < V7.heap.size := by omega
            obtain ⟨ee, hee⟩ : ∃ ee, timesE d sl b m n (partsOf t4) = ee := ⟨_, rfl⟩
            have hone := hide (fun (W : World) (hW7 : Below V7.heap.size V7 W) => (r7Times_walk d sl b m n t4 hs4 W (hS.after (ext_trans hbw7 hW7)) (hW.after (ext_trans hbw7 hW7) hS) (hD.after (ext_trans hbw7 hW7) hS)).mono fun e w' ⟨v, he, ht, hb⟩ => (by
              obtain ⟨A9, c9, rfl⟩ := owns_form ht
              rw [hee] at he ht
              exact ⟨_, A9, _, c9, he, owns_lower ht hW7.size, (fun h0 => by rw [if_pos h0]), ext_trans hW7 hb, hSL.later (ext_trans hW7 hb), cell_later (ext_trans hW7 hb) e4, ((ext_trans hW7 hb).frozen (p := ⟨rb, 4, none⟩) hr7).trans df4⟩ : RTimesCut V7 d sl b m t4 fb fo w.heap.size rb ee n e w'))
            have hSd := hSL.drew
            have hrefl := Below.refl V7.heap.size V7
            rw [hee] at hKE5
            clear oth oth2 fz d4 hown6 hM hasc hee hb6 hb67
            replace hV7 := hide hV7
            go_wp2_with fail
            rw [hV7.out]
            clear hV7 d3 df3
            go_region_held3 (fun W' => W'.cell? ⟨fb, (fo + 12), none⟩ = some (.string t4) ∧ W'.cell? ⟨(w.heap.size + 1), 0, none⟩ = some (.int .i64 d) ∧ W'.cell? ⟨(w.heap.size + 1), 1, none⟩ = some (.int .i64 sl) ∧ W'.cell? ⟨(w.heap.size + 1), 2, none⟩ = some (.int .i64 b) ∧ W'.cell? ⟨(w.heap.size + 1), 3, none⟩ = some (.int .i64 m)) (first | ((repeat (first | (with_reducible assumption) | (with_reducible refine Cn5.alloc ?_ _) | (with_reducible refine Cn5.drew ?_) | (with_reducible refine Cn5.set ?_ ?_ ?_ ?_ ?_ ?_ _) | omega)); done)) (first | (go_at_call 52; refine (hone.out _ (by repeat (first | (with_reducible assumption) | (with_reducible refine ext_alloc ?_ _) | (with_reducible refine ext_drew ?_)))).mono ?_; rintro e w8 ⟨ts, A9, n9, c9, rfl, ht, hts, hb8, hc8, y4, yf4⟩))
            rename_i hHeld
            have hq8 : q < w8.heap.size := by have := hb8.size; omega
            have hr8 : rb < w8.heap.size := by have := hb8.size; omega
            obtain ⟨V9, hV9⟩ : ∃ V9, w8.setCell ⟨rb, 4, none⟩ (.slice A9 n9 c9) = V9 := ⟨_, rfl⟩
            have ho9 : Only rb w8 V9 := by rw [← hV9]; exact only_setCell (Only.refl rb w8) (p := ⟨rb, 4, none⟩) (Or.inl rfl) _
            have hown9 := ((hown7.later hb8).noting ho9 hr5).lower (show q + 1 ≤ w5.heap.size by omega)
            have ht9 := owns_lower (times_noting ht ho9 hr7) (show q + 1 ≤ V7.heap.size by omega)
            have hbw9 : Below w.heap.size w V9 := by rw [← hV9]; exact (ext_trans hbw7 hb8).setCell (p := ⟨rb, 4, none⟩) (by show w.heap.size ≤ rb; omega) _
            have hsz9 : V9.heap.size = w8.heap.size := by rw [← hV9]; exact World.size_setCell _ _ _
            have oth : ∀ (y o : Nat), y ≠ rb → V9.cell? ⟨y, o, none⟩ = w8.cell? ⟨y, o, none⟩ := fun y o h => by rw [← hV9]; exact World.cell?_setCell_other _ _ _ _ (by intro e; injection e with e1 _; exact h e1.symm)
            have oth2 : ∀ (o : Nat), o ≠ 4 → V9.cell? ⟨rb, o, none⟩ = w8.cell? ⟨rb, o, none⟩ := fun o h => by rw [← hV9]; exact World.cell?_setCell_other _ _ _ _ (by intro e; injection e with _ e2; exact h e2.symm)
            replace x0 := (oth q 0 hqr).trans (cell_later hb8 x0)
            replace x1 := (oth q 1 hqr).trans (cell_later hb8 x1)
            replace x2 := (oth q 2 hqr).trans (cell_later hb8 x2)
            replace x3 := (oth q 3 hqr).trans (cell_later hb8 x3)
            replace x4 := (oth q 4 hqr).trans (cell_later hb8 x4)
            replace h0 := (oth2 _ (by decide)).trans (cell_later hb8 h0)
            replace d1 := (oth2 _ (by decide)).trans (cell_later hb8 d1)
            replace d2 := (oth2 _ (by decide)).trans (cell_later hb8 d2)
            replace e3 := (oth2 3 (by decide)).trans (cell_later hb8 e3)
            have e4 : V9.cell? ⟨rb, 4, none⟩ = some (.slice A9 n9 c9) := by rw [← hV9]; exact World.cell?_setCell_same _ _ _ y4
            have fz : ∀ p, V9.frozen? p = w8.frozen? p := fun p => by rw [← hV9, World.frozen?_setCell]
            replace xq0 := (fz _).trans ((hb8.frozen (p := ⟨q, 0, none⟩) (by show q < V7.heap.size; omega)).trans xq0)
            replace xq1 := (fz _).trans ((hb8.frozen (p := ⟨q, 1, none⟩) (by show q < V7.heap.size; omega)).trans xq1)
            replace xq2 := (fz _).trans ((hb8.frozen (p := ⟨q, 2, none⟩) (by show q < V7.heap.size; omega)).trans xq2)
            replace xq3 := (fz _).trans ((hb8.frozen (p := ⟨q, 3, none⟩) (by show q < V7.heap.size; omega)).trans xq3)
            replace xq4 := (fz _).trans ((hb8.frozen (p := ⟨q, 4, none⟩) (by show q < V7.heap.size; omega)).trans xq4)
            rw [hV9]
            have hq9 : q < V9.heap.size := by omega
            have hr9 : rb < V9.heap.size := by omega
            clear oth oth2 fz hHeld hc8 hSL hSd hone hrefl hown7 ht y4 yf4 df4 k4 g0 g1 g2 g3 hbw7 hbw6 hbw5 hV9 ho9 hb8
            by_cases he : ee = 0
            · subst he
              have htv := hts rfl
              have hOf3 : Hid (roomOf d sl b m n fs = (t0, t1, (nv : Int), ascS l3, ts)) := hide (by rw [hOf2.out, htv])
              have hKE6 := hKE5.out
              rw [if_neg (by simp)] at hKE6
              replace hKE6 := hide hKE6
              have hX9 := hX.later hbw9
              obtain ⟨N, hN⟩ : ∃ N, ls.length = N := ⟨_, rfl⟩
              rw [hN] at hKE6 hq ⊢
              replace hN := hide hN
              clear hKE5 hOf2 hts htv hX hS hW hD
              go_wp2
              go_loopw [17] (fun i wr => ∃ j : Nat, j ≤ N ∧ i = .int .i64 j ∧ Hid (¬ t0 ∈ (codesR ls).take j) ∧ Below V9.heap.size V9 wr) (fun i _ => N - (intOf i).toNat)
              case atStart => exact ⟨0, Nat.zero_le _, rfl, hide (by simp), Below.refl _ _⟩
              case round =>
                obtain ⟨j, hj, rfl, ho, hb⟩ := hrel
                replace x0 := cell_later hb x0
                replace x1 := cell_later hb x1
                replace x2 := cell_later hb x2
                replace x3 := cell_later hb x3
                replace x4 := cell_later hb x4
                replace h0 := cell_later hb h0
                replace d1 := cell_later hb d1
                replace d2 := cell_later hb d2
                replace e3 := cell_later hb e3
                replace e4 := cell_later hb e4
                replace xq0 := (hb.frozen (p := ⟨q, 0, none⟩) (by show q < V9.heap.size; omega)).trans xq0
                replace xq1 := (hb.frozen (p := ⟨q, 1, none⟩) (by show q < V9.heap.size; omega)).trans xq1
                replace xq2 := (hb.frozen (p := ⟨q, 2, none⟩) (by show q < V9.heap.size; omega)).trans xq2
                replace xq3 := (hb.frozen (p := ⟨q, 3, none⟩) (by show q < V9.heap.size; omega)).trans xq3
                replace xq4 := (hb.frozen (p := ⟨q, 4, none⟩) (by show q < V9.heap.size; omega)).trans xq4
                have hqr2 : q < wr.heap.size := by have := hb.size; omega
                have hrr2 : rb < wr.heap.size := by have := hb.size; omega
                have hbwr : Below w.heap.size w wr := ext_trans hbw9 hb
                have hownr := hown9.later hb
                have htr := times_later ht9 hb
                clear hbw9 hown9 ht9
                by_cases hlt : j < N
                · obtain ⟨y, hy⟩ : ∃ y, ls[j]? = some y := ⟨_, List.getElem?_eq_getElem (by rw [hN.out]; exact hlt)⟩
                  have hsn := codesR_snoc hy
                  obtain ⟨lb, off, A3, c3, A4, c4, rfl, -, hlb, ⟨q0, -, -, -, -⟩, -, -, -, -⟩ := (hX9.later hb).room hy
                  obtain ⟨z, bl, sn, xs, us⟩ := y
                  dsimp only at q0 hsn
                  have hj0 : (0 : Int) ≤ (j : Int) := by omega
                  have hj1 : (j : Int) < (N : Int) := by omega
                  clear hy hX9
                  by_cases hzt : z.toList = t0.toList
                  · have hbe : (z.toList == t0.toList) = true := by rw [hzt]; simp
                    have hmem : 0 ≤ idxS t0 (codesR ls) := idx_memS.2 (by
                      have e : z = t0 := met_inj (by rw [← toList_dataL, ← toList_dataL]; exact hzt)
                      have h1 : t0 ∈ (codesR ls).take (j + 1) := by rw [hsn, e]; simp
                      exact List.mem_of_mem_take h1)
                    have hK : Hid (roomKE d sl b m n fs ls = (-1, 11)) := hide (by rw [hKE6.out, if_pos hmem])
                    replace hb := hide hb
                    clear hzt hsn hmem hKE6 hOf3 ho
                    go_wp2_with fail
                    go_region
                    go_wp2
                    obtain ⟨c0, c1, c2, c3, c4⟩ := set5_cells (a := .string t0) (b := .string t1) (c := .int .i64 (nv : Int)) (d := .slice A7 M c7) (e := .slice A9 n9 c9) x0 x1 x2 x3 x4
                    have hfin := oner_drew (room_fin (B := q + 1) (z := t0) (bl := t1) (nn := (nv : Int)) hK.out hownr htr (fun h => by cases h) hbwr hgq (by omega) hqr2)
                    have hset : set5 wr q (.string t0) (.string t1) (.int .i64 (nv : Int)) (.slice A7 M c7) (.slice A9 n9 c9) = ((((wr.setCell ⟨q, 0, none⟩ (.string t0)).setCell ⟨q, 1, none⟩ (.string t1)).setCell ⟨q, 2, none⟩ (.int .i64 (nv : Int))).setCell ⟨q, 3, none⟩ (.slice A7 M c7)).setCell ⟨q, 4, none⟩ (.slice A9 n9 c9) := rfl
                    rw [hset] at c0 c1 c2 c3 c4 hfin
                    generalize ((((wr.setCell ⟨q, 0, none⟩ (.string t0)).setCell ⟨q, 1, none⟩ (.string t1)).setCell ⟨q, 2, none⟩ (.int .i64 (nv : Int))).setCell ⟨q, 3, none⟩ (.slice A7 M c7)).setCell ⟨q, 4, none⟩ (.slice A9 n9 c9) = Z at c0 c1 c2 c3 c4 hfin ⊢
                    exact end_room3 rfl q _ _ _ _ _ (.int .i64 (-1)) (.int .i64 11) rfl rfl rfl rfl c0 c1 c2 c3 c4 hfin
                  · have hbe : (z.toList == t0.toList) = false := by simp [hzt]
                    have hnm : Hid (¬ t0 ∈ (codesR ls).take (j + 1)) := hide (by
                      rw [hsn, List.mem_append]
                      rintro (h | h)
                      · exact ho.out h
                      · simp at h; exact hzt (by rw [h]))
                    clear hzt hsn hKE6 hOf3 ho x0 x1 x2 x3 x4 xq0 xq1 xq2 xq3 xq4
                    go_wp2_with fail
                    go_region
                    all_goals
                      go_wp2
                      go_roundw
                      case rel => exact ⟨j + 1, by omega, by go_num, hnm, by first | exact ext_drew hb | exact hb⟩
                      case measure => simp [intOf]; omega
                · obtain rfl : j = N := by omega
                  have hno : ¬ 0 ≤ idxS t0 (codesR ls) := fun h => ho.out (by
                    have e : (codesR ls).take j = codesR ls := List.take_of_length_le (by unfold codesR; rw [List.length_map, hN.out]; exact Nat.le_refl _)
                    rw [e]; exact idx_memS.1 h)
                  have hKE7 := hKE6.out
                  rw [if_neg hno] at hKE7
                  replace hKE7 := hide hKE7
                  replace hb := hide hb
                  clear hKE6 ho hno hX9
                  by_cases h16 : j = 16
                  · have hK : Hid (roomKE d sl b m n fs ls = (-1, 2)) := hide (by rw [hKE7.out, if_pos h16])
                    have h16i : ((j : Int) == 16) = true := by simp; omega
                    have h16j : (j : Int) = 16 := by omega
                    clear hKE7 hOf3 h16
                    go_wp2
                    obtain ⟨c0, c1, c2, c3, c4⟩ := set5_cells (a := .string t0) (b := .string t1) (c := .int .i64 (nv : Int)) (d := .slice A7 M c7) (e := .slice A9 n9 c9) x0 x1 x2 x3 x4
                    exact end_room3 rfl q _ _ _ _ _ _ _ rfl rfl rfl rfl c0 c1 c2 c3 c4 (room_fin (B := q + 1) hK.out hownr htr (fun h => by cases h) hbwr hgq (by omega) hqr2)
                  · have hK : Hid (roomKE d sl b m n fs ls = (0, 0)) := hide (by rw [hKE7.out, if_neg h16])
                    have h16i : ((j : Int) == 16) = false := by simp; omega
                    have h16j : ¬ (j : Int) = 16 := by omega
                    clear hKE7 h16
                    go_wp2
                    obtain ⟨c0, c1, c2, c3, c4⟩ := set5_cells (a := .string t0) (b := .string t1) (c := .int .i64 (nv : Int)) (d := .slice A7 M c7) (e := .slice A9 n9 c9) x0 x1 x2 x3 x4
                    exact end_room3 rfl q _ _ _ _ _ _ _ rfl rfl rfl rfl c0 c1 c2 c3 c4 (room_fin (B := q + 1) hK.out hownr htr (fun _ => hOf3.out.symm) hbwr hgq (by omega) hqr2)
            · have hK : Hid (roomKE d sl b m n fs ls = (4, ee)) := hide (by rw [hKE5.out, if_pos he])
              have hei : (ee != 0) = true := by simpa using he
              have he' := hide he
              clear hKE5 hOf2 hts he
              go_wp2
              obtain ⟨c0, c1, c2, c3, c4⟩ := set5_cells (a := .string t0) (b := .string t1) (c := .int .i64 (nv : Int)) (d := .slice A7 M c7) (e := .slice A9 n9 c9) x0 x1 x2 x3 x4
              exact end_room3 rfl q _ _ _ _ _ _ _ rfl rfl rfl rfl c0 c1 c2 c3 c4 (room_fin (B := q + 1) hK.out hown9 ht9 (fun h => absurd h he'.out) hbw9 hgq (by omega) hq9)
          · have hK : Hid (roomKE d sl b m n fs ls = (3, (s3 : Int))) := hide (by rw [hKE4.out, if_pos h3])
            have h3i : ((s3 : Int) != 0) = true := by simp; omega
            have h3j : ¬ (s3 : Int) = 0 := by omega
            obtain ⟨L3, hL3⟩ : ∃ L3, l3.length = L3 := ⟨_, rfl⟩
            rw [hL3]
            clear hKE4 hOf1 hso hsl hown hat hL3
            replace h3 := hide h3
            go_wp2
            obtain ⟨c0, c1, c2, c3, c4⟩ := set5_cells (a := .string t0) (b := .string t1) (c := .int .i64 (nv : Int)) (d := .slice none 0 0) (e := .slice none 0 0) x0 x1 x2 x3 x4
            exact end_room3 rfl q _ _ _ _ _ _ _ rfl rfl rfl rfl c0 c1 c2 c3 c4 (room_fin (B := w5.heap.size) (l := []) (ts := []) hK.out Own.nil (World.ownsRow_nil _ _ _ _) (fun h => absurd h h3j) hbw5 hgq hq5 hq5)
  · have hk : roomKE d sl b m n fs ls = (-1, 9) := if_pos hm
    have hm2 : ((fs.length : Int) != 5) = true := by simp; omega
    have hU4 := heap3c w (.cells #[.int .i64 line, .slice F fs.length c] 27) (.cells #[.int .i64 d, .int .i64 sl, .int .i64 b, .int .i64 m] 24) (.cells #[.string ⟨#[]⟩, .string ⟨#[]⟩, .int .i64 0, .slice none 0 0, .slice none 0 0] 47)
    have hbU : Below w.heap.size w (((w.alloc (.cells #[.int .i64 line, .slice F fs.length c] 27)).alloc (.cells #[.int .i64 d, .int .i64 sl, .int .i64 b, .int .i64 m] 24)).alloc (.cells #[.string ⟨#[]⟩, .string ⟨#[]⟩, .int .i64 0, .slice none 0 0, .slice none 0 0] 47)) := (by repeat (first | exact Below.refl _ _ | refine ext_alloc ?_ _ | refine ext_drewN ?_ _ | refine ext_drew ?_ | refine ext_trans ?_ (by assumption)))
    obtain ⟨U, hU⟩ : ∃ U, ((w.alloc (.cells #[.int .i64 line, .slice F fs.length c] 27)).alloc (.cells #[.int .i64 d, .int .i64 sl, .int .i64 b, .int .i64 m] 24)).alloc (.cells #[.string ⟨#[]⟩, .string ⟨#[]⟩, .int .i64 0, .slice none 0 0, .slice none 0 0] 47) = U := ⟨_, rfl⟩
    rw [hU] at hbU hU4
    obtain ⟨-, -, u3⟩ := hU4
    have c0 : U.cell? ⟨w.heap.size + 2, 0, none⟩ = some (.string ⟨#[]⟩) := (cell_of_row U _ _ _ _ _ u3).trans rfl
    have c1 : U.cell? ⟨w.heap.size + 2, 1, none⟩ = some (.string ⟨#[]⟩) := (cell_of_row U _ _ _ _ _ u3).trans rfl
    have c2 : U.cell? ⟨w.heap.size + 2, 2, none⟩ = some (.int .i64 0) := (cell_of_row U _ _ _ _ _ u3).trans rfl
    have c3 : U.cell? ⟨w.heap.size + 2, 3, none⟩ = some (.slice none 0 0) := (cell_of_row U _ _ _ _ _ u3).trans rfl
    have c4 : U.cell? ⟨w.heap.size + 2, 4, none⟩ = some (.slice none 0 0) := (cell_of_row U _ _ _ _ _ u3).trans rfl
    replace hU := hide hU
    replace c0 := hide c0
    replace c1 := hide c1
    replace c2 := hide c2
    replace c3 := hide c3
    replace c4 := hide c4
    replace hk := hide hk
    clear hF hX hs hS hW hD u3
    replace hm := hide hm
    go_enter Tryz.func19, Tryz.ntmps19
    go_wp2
    rw [hU.out]
    exact end_room3 rfl (w.heap.size + 2) _ _ _ _ _ _ _ rfl rfl rfl rfl c0.out c1.out c2.out c3.out c4.out ⟨_, _, 0, [], [], _, _, by rw [hk.out]; rfl, Own.nil, World.ownsRow_nil _ _ _ _, (fun h => by rw [hk.out] at h; cases h), hbU⟩
end Go.Proofs.YtnbcaklnpflihaaGreatDoor

namespace Go.Proofs.YtnbcaklnpflihaaGreatDoor
open Go.RowKit
set_option maxRecDepth 100000

def readRoom (d sl b m n : Int) (rs : List Rec) : RG Room := readAll 5 (roomP d sl b m n) (roomOf d sl b m n) rs
theorem roomP_len {d sl b m n : Int} (line : Int) (fs : List Fld) (ls : List Room) (h : roomP d sl b m n line fs ls = none) : ls.length < 16 := by
  unfold roomP at h
  have := of_decide_eq_false (noted_none h).2
  omega
theorem readRoom_len (d sl b m n : Int) (rs : List Rec) : (readRoom d sl b m n rs).ls.length ≤ 16 ∧ (readRoom d sl b m n rs).lines.length = (readRoom d sl b m n rs).ls.length ∧ (readRoom d sl b m n rs).ps.length ≤ rs.length := readAll_len roomP_len rs
theorem apart_room : TyApart 47 [9, 50] := ⟨by decide, by decide, by decide, by decide, by decide, by decide, by decide⟩
theorem apd_room : Apd Tryz.prog 29 47 5 88 := apd Tryz.underlying29 (z := .agg #[.string ⟨#[]⟩, .string ⟨#[]⟩, .int .i64 0, .slice none 0 0, .slice none 0 0]) (by kernel_rfl) rfl
theorem own_times {B : Nat} {w : World} {v : Value} {ts : List T4} (h : TimesOwn B w v ts) : Own kTime 50 [] 0 B w v ts :=
  ⟨ts.map encT, by simp, by rw [show (ts.map encT).flatten = ts.flatMap encT from (List.flatMap_def ..).symm]; exact h, fun j x vs hj hv => by
    rw [List.getElem?_map, hj] at hv
    cases Option.some.inj hv
    exact ⟨[_], _, rfl, rfl, [_], _, rfl, rfl, [_], [_], rfl, rfl, rfl⟩⟩
theorem own_rep2 {α : Type} {K : Kind α} {t : TypeId} {ts' : List TypeId} {B : Nat} {w : World} {v : Value} {l : List α} (h : Own K t [] 0 B w v l) (ht : t ∈ ts') : (kSlice K).rep (Ty ts' 0 B w) w l [v] := by
  obtain ⟨A, c, rfl, h1, h2⟩ := h.at
  refine ⟨A, c, rfl, h1, h2.more fun b hb => ?_⟩
  rcases hb with hb | ⟨hB, cs, t', hc, hm⟩
  · exact .inl hb
  · exact .inr ⟨hB, cs, t', hc, by simp at hm; rw [hm]; exact ht⟩
abbrev GR (w0 : World) (u6 u7 u8 : Value) (ls : List Room) (lines : List Int) (ps : List Prob) (W : World) : Prop := GG kRoom 47 [9, 50] w0 u6 u7 u8 ls lines ps W
def ReadRGives (d sl b m n : Int) (rs : List Rec) (w : World) (e : Ending) (w' : World) : Prop :=
  ∃ v6 v7 v8, e = .returned (.tuple #[v6, v7, v8]) ∧ GR w v6 v7 v8 (readRoom d sl b m n rs).ls (readRoom d sl b m n rs).lines (readRoom d sl b m n rs).ps w'
def ReadRLoop (d sl b m n : Int) (rs : List Rec) (w : World) (v6 v7 v8 i : Value) (wr : World) : Prop :=
  ∃ j : Nat, j ≤ rs.length ∧ i = .int .i64 j ∧ GR w v6 v7 v8 (readRoom d sl b m n (rs.take j)).ls (readRoom d sl b m n (rs.take j)).lines (readRoom d sl b m n (rs.take j)).ps wr
set_option maxHeartbeats 8000000 in
theorem rread_walk (gb nb : Nat) (d sl b m n : Int) (A : Option Addr) (rs : List Rec) (cap : Nat) (w : World) (hS : Std w) (hCl : Cl gb nb d sl b m n w) (hR : RecsAt w.heap.size w A rs) (hN : rs.length ≤ 4000000000000) (hs : ∀ r ∈ rs, ∀ f ∈ r.2, f.1.size < 1073741824) :
    Calls Tryz.prog 38 #[.slice A rs.length cap, .int .i64 5, .func (.func 39) #[] #[.pointer (some ⟨gb, 0, none⟩), .pointer (some ⟨nb, 0, none⟩)]] w fun e w' => ReadRGives d sl b m n rs w e w' := by
  have eg : ∀ args w, (callFunc 39 args).run Tryz.prog w = .ok (.enter 39 args) w := enters_of Tryz.func39 (by kernel_rfl) rfl
  obtain ⟨iP, hiP, hP0, hP1, hP2⟩ := info_parts infoProb
  obtain ⟨N, hNN⟩ : ∃ N, rs.length = N := ⟨_, rfl⟩
  have hbig := hS.big
  rw [hNN] at hN ⊢
  replace hNN := hide hNN
  replace hs := hide hs
  go_enter Tryz.func38, Tryz.ntmps38
  go_wp2
  go_loopw [6, 7, 8, 15] (fun v6 v7 v8 i wr => ReadRLoop d sl b m n rs w v6 v7 v8 i wr) (fun _ _ _ i _ => N - (intOf i).toNat)
  case atStart => exact ⟨0, Nat.zero_le _, rfl, Own.nil, Own.nil, World.ownsRow_nil _ _ _ _, Below.refl _ _⟩
  case round =>
    obtain ⟨j, hj, rfl, hG⟩ := hrel
    rw [hNN.out] at hj
    by_cases hlt : j < N
    · obtain ⟨r, hr⟩ : ∃ r, rs[j]? = some r := ⟨_, List.getElem?_eq_getElem (by rw [hNN.out]; exact hlt)⟩
      obtain ⟨rb, off, rfl, hrb, hcell⟩ := (hR.below hG.below) (by rw [hNN.out]; omega)
      obtain ⟨F, c, k0, k1, hF⟩ := hcell j r hr
      have hsr := hide (hs.out r (List.mem_of_getElem? hr))
      have hstep := hide (readAll_take (n := 5) (P := roomP d sl b m n) (f := roomOf d sl b m n) rs j r hr)
      obtain ⟨st, hst⟩ : ∃ st, readAll 5 (roomP d sl b m n) (roomOf d sl b m n) (rs.take j) = st := ⟨_, rfl⟩
      have hlen := readRoom_len d sl b m n (rs.take j)
      rw [List.length_take, hNN.out] at hlen
      unfold readRoom at hG hlen
      rw [hst] at hG hlen hstep
      obtain ⟨n1, n2, n3⟩ := hlen
      obtain ⟨line, fs⟩ := r
      dsimp only at k0 k1 hF hsr
      have hz := hG.below.size
      have hrb2 : rb < wr.heap.size := by omega
      have h3N : st.ps.length ≤ 4000000000000 := by omega
      have hSr := hS.after hG.below
      clear hcell hr hst hR n3
      replace n2 := hide n2
      obtain ⟨g, hg⟩ : ∃ g, wr.heap.size + 1 = g := ⟨_, rfl⟩
      have hsc0 : Scan ((wr.alloc (.cells #[.int .i64 line, .slice F fs.length c] 27)).alloc (.cells #[.int .i64 line, .slice F fs.length c, .int .i64 0, .pointer none] 108)) g line F fs.length c 0 none :=
        ⟨.pointer none, by rw [← hg]; exact heap_new2 _ _ _, rfl⟩
      have hb1 : Below wr.heap.size wr ((wr.alloc (.cells #[.int .i64 line, .slice F fs.length c] 27)).alloc (.cells #[.int .i64 line, .slice F fs.length c, .int .i64 0, .pointer none] 108)) := (by repeat (first | exact Below.refl _ _ | refine ext_alloc ?_ _ | refine ext_drewN ?_ _ | refine ext_drew ?_ | refine ext_trans ?_ (by assumption)))
      have q0 : ((wr.alloc (.cells #[.int .i64 line, .slice F fs.length c] 27)).alloc (.cells #[.int .i64 line, .slice F fs.length c, .int .i64 0, .pointer none] 108)).cell? ⟨wr.heap.size, 0, none⟩ = some (.int .i64 line) := by simp
      have hgw : wr.heap.size < g := by omega
      replace hg := hide hg
      obtain ⟨A6, c6, rfl⟩ := hG.ls.form
      have hu6 : Hid (∀ y, (Value.slice A6 st.ls.length c6).ownBlock = some y → y < wr.heap.size) := hide fun y e => (hG.ls.lt y e).2
      have hu7 : Hid (∀ y, u7.ownBlock = some y → y < wr.heap.size) := hide fun y e => (hG.ins.lt y e).2
      have hat := hG.ls.any'
      by_cases hm : fs.length = 5
      · have hm2 : ((fs.length : Int) != 5) = false := by simp; omega
        have h1s : ∀ k, (textAt fs k).size < 1073741824 := by
          intro k
          unfold textAt
          rw [List.getD_eq_getElem?_getD]
          cases hk : fs[k]? with
          | none => decide
          | some f => exact hsr.out _ (List.mem_of_getElem? hk)
        rw [show gathStep 5 (roomP d sl b m n) (roomOf d sl b m n) st (line, fs) = (match roomP d sl b m n line fs st.ls with | some p => ⟨st.ls, st.lines, st.ps ++ [p]⟩ | none => ⟨st.ls ++ [roomOf d sl b m n fs], st.lines ++ [line], st.ps⟩) from if_pos hm] at hstep
        replace hm := hide hm
        go_wp2_with fail
        rw [hg.out]
        refine (whole_walk g line F fs.length c 0 none false 9 _ hsc0).mono ?_
        rintro e w2 ⟨rfl, hs2, ho2⟩
        have hs2 : Scan w2 g line F fs.length c 0 none := hs2
        have c3 := scan_none hs2
        have hb2 : Below wr.heap.size wr w2 := hb1.trans (Only.below ho2 (by omega) hb1.size)
        have q2 := (ho2.cell (by rw [World.size_alloc, World.size_alloc]; omega) (by omega)).trans q0
        have hG2 := hG.later hb2
        have hS2 := hSr.after hb2
        have v1 : g < w2.heap.size := World.block_lt_of_cell? _ _ c3
        have v0 : wr.heap.size < w2.heap.size := World.block_lt_of_cell? _ _ q2
        have hF2 : FieldsAt w.heap.size w2 F fs := hF.below (hb2.mono hz)
        have hat2 : At kRoom (· < g) w2 A6 st.ls := (hat.below hb2).up (by omega)
        have hbx : Below w2.heap.size w2 (w2.alloc (.cells #[.string ⟨#[]⟩, .string ⟨#[]⟩, .int .i64 0, .slice none 0 0, .slice none 0 0] 47)) := ext_alloc (Below.refl _ _) _
        have hsx := hs2.later hbx
        have hFx := hF2.below (hbx.mono (by omega) : Below w.heap.size _ _)
        have hax := hat2.below (hbx.mono (by omega) : Below g _ _)
        have hcall := hide (rone_walk w.heap.size gb nb g d sl b m n line F fs c A6 st.ls c6 _ (hS2.after hbx) ((hCl.later (ext_trans hG2.below hbx))) (by have := hCl.lt.1; omega) (by have := hCl.lt.2; omega) hsx hFx hm.out (by omega) hbig h1s (by omega) hax)
        clear hsc0 hb1 q0 ho2 hG hb2 hF hat hat2 hF2 hsx hFx hax hSr hS2
        go_upto_region 9 with (go_at_fn 39; refine hcall.out.mono ?_; rintro e w3 ⟨a0, a1, nn, l9, ts, v9, v10, k, rfl, hown3, ht3, hs3, hP3, ho3⟩; obtain ⟨A9, c9, rfl⟩ := hown3.form; obtain ⟨A10, c10, rfl⟩ := owns_form ht3; have x0 : w3.cell? ⟨w2.heap.size, 0, none⟩ = some (.string ⟨#[]⟩) := (ho3.cell (by simp) (by omega)).trans (by simp); have x1 : w3.cell? ⟨w2.heap.size, 1, none⟩ = some (.string ⟨#[]⟩) := (ho3.cell (by simp) (by omega)).trans (by simp); have x2 : w3.cell? ⟨w2.heap.size, 2, none⟩ = some (.int .i64 0) := (ho3.cell (by simp) (by omega)).trans (by simp); have x3 : w3.cell? ⟨w2.heap.size, 3, none⟩ = some (.slice none 0 0) := (ho3.cell (by simp) (by omega)).trans (by simp); have x4 : w3.cell? ⟨w2.heap.size, 4, none⟩ = some (.slice none 0 0) := (ho3.cell (by simp) (by omega)).trans (by simp); have xf0 : w3.frozen? ⟨w2.heap.size, 0, none⟩ = false := (ho3.frozen (by simp) (by omega)).trans (by simp); have xf1 : w3.frozen? ⟨w2.heap.size, 1, none⟩ = false := (ho3.frozen (by simp) (by omega)).trans (by simp); have xf2 : w3.frozen? ⟨w2.heap.size, 2, none⟩ = false := (ho3.frozen (by simp) (by omega)).trans (by simp); have xf3 : w3.frozen? ⟨w2.heap.size, 3, none⟩ = false := (ho3.frozen (by simp) (by omega)).trans (by simp); have xf4 : w3.frozen? ⟨w2.heap.size, 4, none⟩ = false := (ho3.frozen (by simp) (by omega)).trans (by simp))
        obtain ⟨L9, hL9⟩ : ∃ L9, (ascS l9).length = L9 := ⟨_, rfl⟩
        obtain ⟨L10, hL10⟩ : ∃ L10, ts.length = L10 := ⟨_, rfl⟩
        rw [hL9] at hown3 ⊢
        rw [hL10] at ht3 ⊢
        obtain ⟨fl, hfl⟩ : ∃ fl, ascS l9 = fl := ⟨_, rfl⟩
        rw [hfl] at hown3 hP3 hL9
        have hgx : w2.heap.size ≠ g := by omega
        obtain ⟨y0, y1, y2, y3, y4⟩ := set5_cells (a := .string a0) (b := .string a1) (c := .int .i64 (nn : Int)) (d := .slice A9 L9 c9) (e := .slice A10 L10 c10) x0 x1 x2 x3 x4
        have hs4 := set5_scan (z := a0) (b2 := .string a1) (c2 := .int .i64 (nn : Int)) (d2 := .slice A9 L9 c9) (e2 := .slice A10 L10 c10) hs3 x0 hgx
        have ho4 : Only g w2 (set5 w3 w2.heap.size (.string a0) (.string a1) (.int .i64 (nn : Int)) (.slice A9 L9 c9) (.slice A10 L10 c10)) := set5_only ((Only.later (Only.refl g w2) (ext_alloc (Below.refl _ _) _)).trans ho3) (Or.inr (Nat.le_refl _))
        have hxo : Only w2.heap.size w3 (set5 w3 w2.heap.size (.string a0) (.string a1) (.int .i64 (nn : Int)) (.slice A9 L9 c9) (.slice A10 L10 c10)) := set5_only (Only.refl _ w3) (Or.inl rfl)
        have hown4 := Own.lower (C := w.heap.size) (hown3.noting hxo (by rw [World.size_alloc]; omega)) (by rw [World.size_alloc]; omega)
        have ht4 := own_times (owns_lower (C := w.heap.size) (times_noting ht3 hxo (by rw [World.size_alloc]; omega)) (by rw [World.size_alloc]; omega))
        obtain ⟨U, hU⟩ : ∃ U, set5 w3 w2.heap.size (.string a0) (.string a1) (.int .i64 (nn : Int)) (.slice A9 L9 c9) (.slice A10 L10 c10) = U := ⟨_, rfl⟩
        rw [hU] at y0 y1 y2 y3 y4 hs4 ho4 hown4 ht4
        unfold set5 at hU
        have hG4 := hG2.scan apart_room hs2 ho4 (by omega)
        have q4 := (ho4.cell v0 (by omega)).trans q2
        rw [hU]
        have hzU : w.heap.size ≤ U.heap.size := hG4.below.size
        clear hU x0 x1 x2 x3 x4 xf0 xf1 xf2 xf3 xf4 hs3 ho3 ho4 ht3 hxo hG2 hs2 c3 q2 eg hcall hbx hown3
        cases hsp : roomP d sl b m n line fs st.ls with
        | some p =>
          rw [hsp] at hs4 hstep
          obtain ⟨line', col, er⟩ := p
          obtain ⟨h, c3, p0, p1, p2, p3⟩ := scan_some hs4
          dsimp only at p0 p1 p2 p3 hstep
          clear hsp hs4 y0 y1 y2 y3 y4 q4 hP3 hown4 ht4
          have v1 : g < U.heap.size := World.block_lt_of_cell? _ _ c3
          have v2 : h < U.heap.size := World.block_lt_of_cell? _ _ p0
          go_wp2_with (at_builtin; refine wpList_append_own _ rfl _ _ 30 rfl w.heap.size 56 iP (.agg #[.int .i64 0, .int .i64 0, .int .i64 0, .int .i64 0]) 4 32 Tryz.underlying30 hiP hP0 hP1 hP2 rfl (by decide) _ _ _ rfl (hG4.alloc _).ps ⟨U.heap.size, 0, none⟩ 1 1 (encP (line', col, er)) rfl rfl (new_prob _ _ _ _ _) (one_prob _) ?c3 ?c4 ?c5 ?_)
          case c3 => unfold maxLen; omega
          case c4 => omega
          case c5 => rw [World.size_alloc]; omega
          intro v' w4 hPn hgrow _
          have hGn := (hG4.alloc _).prob (p := (line', col, er)) apart_room hgrow hPn
          clear hG4 c3 p0 p1 p2 p3 hPn hgrow
          go_wp2
          go_roundw
          case rel => exact ⟨j + 1, by rw [hNN.out]; omega, by go_num, by unfold readRoom; rw [hstep.out]; exact hGn⟩
          case measure => simp [intOf]; omega
        | none =>
          rw [hsp] at hs4 hstep
          have hcur := hP3 hsp
          have c3 := scan_none hs4
          have v1 : g < U.heap.size := World.block_lt_of_cell? _ _ c3
          have v2 : w2.heap.size < U.heap.size := World.block_lt_of_cell? _ _ y0
          have v3 : wr.heap.size < U.heap.size := World.block_lt_of_cell? _ _ q4
          dsimp only at hstep
          rw [← hcur] at hstep
          have n32 : st.lines.length ≤ 100000 := by rw [n2.out]; omega
          have n31 : st.ls.length ≤ 100000 := by omega
          have hn6 : Hid (∀ k, wr.heap.size ≤ k → some k ≠ (Value.slice A6 st.ls.length c6).ownBlock) := hide fun k hk e => by have := hu6.out k e.symm; omega
          have hn7 : Hid (∀ k, wr.heap.size ≤ k → some k ≠ u7.ownBlock) := hide fun k hk e => by have := hu7.out k e.symm; omega
          have e1 := hide (hn6.out w2.heap.size (by omega))
          have e2 := hide (hn6.out wr.heap.size (Nat.le_refl _))
          have e3 := hide (hn7.out w2.heap.size (by omega))
          have e4 := hide (hn7.out wr.heap.size (Nat.le_refl _))
          clear hsp hs4 hcur hP3
          go_upto_region 11 with fail
          clear c3
          have hGd := hG4.drew
          have hSd : Cn6 w2.heap.size 0 ((.string a0)) w2.heap.size 1 ((.string a1)) w2.heap.size 2 ((.int .i64 (nn : Int))) w2.heap.size 3 ((.slice A9 L9 c9)) w2.heap.size 4 ((.slice A10 L10 c10)) wr.heap.size 0 ((.int .i64 line)) U.drew := ⟨y0, y1, y2, y3, y4, q4⟩
          have hS0 : Cn6 w2.heap.size 0 ((.string a0)) w2.heap.size 1 ((.string a1)) w2.heap.size 2 ((.int .i64 (nn : Int))) w2.heap.size 3 ((.slice A9 L9 c9)) w2.heap.size 4 ((.slice A10 L10 c10)) wr.heap.size 0 ((.int .i64 line)) U := ⟨y0, y1, y2, y3, y4, q4⟩
          have hownd := hown4.drew
          have htd := ht4.drew
          clear y0 y1 y2 y3 y4 q4
          go_region_held3 (fun W' => W'.cell? ⟨w2.heap.size, 0, none⟩ = some ((.string a0)) ∧ W'.cell? ⟨w2.heap.size, 1, none⟩ = some ((.string a1)) ∧ W'.cell? ⟨w2.heap.size, 2, none⟩ = some ((.int .i64 (nn : Int))) ∧ W'.cell? ⟨w2.heap.size, 3, none⟩ = some ((.slice A9 L9 c9)) ∧ W'.cell? ⟨w2.heap.size, 4, none⟩ = some ((.slice A10 L10 c10)) ∧ W'.cell? ⟨wr.heap.size, 0, none⟩ = some ((.int .i64 line))) (first | ((repeat (first | (with_reducible assumption) | (with_reducible refine Cn6.alloc ?_ _) | (with_reducible refine Cn6.drew ?_) | (with_reducible refine Cn6.set ?_ ?_ ?_ ?_ ?_ ?_ ?_ _) | omega)); done)) (first | (refine stepg_ls (S := Cn6 w2.heap.size 0 ((.string a0)) w2.heap.size 1 ((.string a1)) w2.heap.size 2 ((.int .i64 (nn : Int))) w2.heap.size 3 ((.slice A9 L9 c9)) w2.heap.size 4 ((.slice A10 L10 c10)) wr.heap.size 0 ((.int .i64 line))) (K := kRoom) (t := 47) (ts := [9, 50]) (t2 := 29) (bytes := 88) (w0 := w) (u6 := .slice A6 st.ls.length c6) (u7 := u7) (u8 := u8) (ls := st.ls) (lines := st.lines) (ps := st.ps) apart_room apd_room (by decide) (by decide) rfl (.tmp 52) (.tmp 54) rfl (by rfl) (by repeat (first | (with_reducible assumption) | (with_reducible refine GG.alloc ?_ _) | (with_reducible refine GG.drew ?_))) n31 _ _ (by rfl) (a0, a1, (nn : Int), fl, ts) [.string a0, .string a1, .int .i64 (nn : Int), .slice A9 L9 c9, .slice A10 L10 c10] (room_rep (own_rep2 (K := kStr) (t := 9) (B := w.heap.size) (by repeat (first | (with_reducible assumption) | (with_reducible refine Own.alloc ?_ _) | (with_reducible refine Own.drew ?_))) (List.Mem.head _)) (own_rep2 (K := kTime) (t := 50) (B := w.heap.size) (by repeat (first | (with_reducible assumption) | (with_reducible refine Own.alloc ?_ _) | (with_reducible refine Own.drew ?_))) (List.Mem.tail _ (List.Mem.head _)))) (World.news_of_block (cs := #[.string a0, .string a1, .int .i64 (nn : Int), .slice A9 L9 c9, .slice A10 L10 c10]) (t := 47) (fr := (0, 0)) (by first | exact heap_alloc_new _ _ | exact heap_new2 _ _ _ | exact (Below.heap_alloc _ _ _ (by first | (simp; done) | (simp; omega))).trans (heap_alloc_new _ _))) (fun W' hg => Cn6.grown (by repeat (first | (with_reducible assumption) | (with_reducible refine Cn6.alloc ?_ _) | (with_reducible refine Cn6.drew ?_))) hg e1.out e1.out e1.out e1.out e1.out e2.out) ?_; intro gA capA w4 hg2 hgrow hs4) | (refine stepg_ins (S := Cn6 w2.heap.size 0 ((.string a0)) w2.heap.size 1 ((.string a1)) w2.heap.size 2 ((.int .i64 (nn : Int))) w2.heap.size 3 ((.slice A9 L9 c9)) w2.heap.size 4 ((.slice A10 L10 c10)) wr.heap.size 0 ((.int .i64 line))) (K := kRoom) (t := 47) (ts := [9, 50]) (w0 := w) (u6 := .slice (some ⟨gA, 0, none⟩) (st.ls.length + 1) capA) (u7 := u7) (u8 := u8) (ls := st.ls ++ [(a0, a1, (nn : Int), fl, ts)]) (lines := st.lines) (ps := st.ps) apart_room rfl (.tmp 56) (.tmp 59) rfl (by rfl) (by repeat (first | (with_reducible assumption) | (with_reducible refine GG.alloc ?_ _) | (with_reducible refine GG.drew ?_))) n32 _ _ (by rfl) line (World.news_of_block (cs := #[.int .i64 line]) (t := 3) (fr := (0, 0)) (by first | exact heap_alloc_new _ _ | exact heap_new2 _ _ _ | exact (Below.heap_alloc _ _ _ (by first | (simp; done) | (simp; omega))).trans (heap_alloc_new _ _) | exact (hgrow.block _ (by first | (simp; done) | (simp; omega)) (hn6.out _ (by first | omega | (simp; done) | (simp; omega)))).trans (by first | exact heap_alloc_new _ _ | exact heap_new2 _ _ _ | exact (Below.heap_alloc _ _ _ (by first | (simp; done) | (simp; omega))).trans (heap_alloc_new _ _)))) (fun W' hg => Cn6.grown (by repeat (first | (with_reducible assumption) | (with_reducible refine Cn6.alloc ?_ _) | (with_reducible refine Cn6.drew ?_))) hg e3.out e3.out e3.out e3.out e3.out e4.out) ?_; intro gB capB w5 hg3 hgrow3 hs5))
          all_goals
            clear hGd hSd hS0 hG4 hown4 hownd ht4 htd
            go_wp2
            go_roundw
            case rel => exact ⟨j + 1, by rw [hNN.out]; omega, by go_num, by unfold readRoom; rw [hstep.out]; exact hg3⟩
            case measure => simp [intOf]; omega
      · have hm2 : ((fs.length : Int) != 5) = true := by simp; omega
        rw [show gathStep 5 (roomP d sl b m n) (roomOf d sl b m n) st (line, fs) = ⟨st.ls, st.lines, st.ps ++ [(line, 0, 9)]⟩ from if_neg hm] at hstep
        replace hm := hide hm
        clear hat hSr
        go_wp2_with fail
        rw [hg.out]
        refine (whole_walk g line F fs.length c 0 none true 9 _ hsc0).mono ?_
        rintro e w2 ⟨rfl, hs2, ho2⟩
        obtain ⟨h, c3, p0, p1, p2, p3⟩ := scan_some hs2
        have hb2 : Below wr.heap.size wr w2 := hb1.trans (Only.below ho2 (by omega) hb1.size)
        have hG2 := hG.later hb2
        clear hsc0 hb1 q0 hs2 ho2 hG
        dsimp only at p0 p1 p2 p3
        have v1 := World.block_lt_of_cell? _ _ c3
        have v2 := World.block_lt_of_cell? _ _ p0
        have hz2 := hG2.below.size
        go_wp2_with (at_builtin; refine wpList_append_own _ rfl _ _ 30 rfl w.heap.size 56 iP (.agg #[.int .i64 0, .int .i64 0, .int .i64 0, .int .i64 0]) 4 32 Tryz.underlying30 hiP hP0 hP1 hP2 rfl (by decide) _ _ _ rfl ((hG2.alloc _).alloc _).ps ⟨w2.heap.size + 1, 0, none⟩ 1 1 (encP (line, 0, 9)) rfl rfl ?c0 (one_prob _) ?c3 ?c4 ?c5 ?_)
        case c0 => exact new_prob2 _ _ _ _ _ _
        case c3 => unfold maxLen; omega
        case c4 => omega
        case c5 => rw [World.size_alloc, World.size_alloc]; omega
        intro v' w4 hPn hgrow _
        have hGn := ((hG2.alloc _).alloc _).prob (p := (line, 0, 9)) apart_room hgrow hPn
        clear hG2 c3 p0 p1 p2 p3 hb2 hPn hgrow
        go_wp2
        go_roundw
        case rel => exact ⟨j + 1, by rw [hNN.out]; omega, by go_num, by unfold readRoom; rw [hstep.out]; exact hGn⟩
        case measure => simp [intOf]; omega
    · obtain rfl : j = N := by omega
      have hall : Hid (rs.take j = rs) := hide (by rw [← hNN.out]; exact List.take_length)
      rw [hall.out] at hG
      clear hall
      go_wp2
      go_ret3
      exact ⟨_, _, _, rfl, hG⟩
end Go.Proofs.YtnbcaklnpflihaaGreatDoor

namespace Go.Proofs.YtnbcaklnpflihaaGreatDoor
open Go.RowKit
set_option maxRecDepth 100000

def roomsRead (d sl b m n : Int) (rs : List Rec) : List Room × List Prob :=
  if weekB d sl b m n then ((readRoom d sl b m n rs).ls, (readRoom d sl b m n rs).ps) else ([], [(0, 0, 1)])
abbrev RoomsOwn (B : Nat) (w : World) (v : Value) (l : List Room) : Prop := Own kRoom 47 [9, 50] 0 B w v l
def RoomLines (d sl b m n : Int) (rs : List Rec) (w : World) (e : Ending) (w' : World) : Prop :=
  ∃ v6 v7 v8, e = .returned (.tuple #[v6, v7, v8]) ∧ RoomsOwn w.heap.size w' v6 (roomsRead d sl b m n rs).1 ∧ ProbsOwn w.heap.size w' v8 (roomsRead d sl b m n rs).2 ∧ Below w.heap.size w w'
set_option maxHeartbeats 4000000 in
theorem rlines_walk (d sl b m n : Int) (A : Option Addr) (rs : List Rec) (cap : Nat) (w : World) (hS : Std w) (hR : RecsAt w.heap.size w A rs) (hN : rs.length ≤ 4000000000000) (hs : ∀ r ∈ rs, ∀ f ∈ r.2, f.1.size < 1073741824) :
    Calls Tryz.prog 17 #[.slice A rs.length cap, .agg #[.int .i64 d, .int .i64 sl, .int .i64 b, .int .i64 m], .int .i64 n] w fun e w' => RoomLines d sl b m n rs w e w' := by
  have hb0 : Below w.heap.size w ((w.alloc (.cells #[.int .i64 d, .int .i64 sl, .int .i64 b, .int .i64 m] 24)).alloc (.cells #[.int .i64 n] 3)) := (by repeat (first | exact Below.refl _ _ | refine ext_alloc ?_ _ | refine ext_drewN ?_ _ | refine ext_drew ?_ | refine ext_trans ?_ (by assumption)))
  have bG := (Box4.new w 24 (.int .i64 d) (.int .i64 sl) (.int .i64 b) (.int .i64 m)).alloc (.cells #[.int .i64 n] 3)
  have bN : ((w.alloc (.cells #[.int .i64 d, .int .i64 sl, .int .i64 b, .int .i64 m] 24)).alloc (.cells #[.int .i64 n] 3)).cell? ⟨w.heap.size + 1, 0, none⟩ = some (.int .i64 n) := by
    have := (show ((w.alloc (.cells #[.int .i64 d, .int .i64 sl, .int .i64 b, .int .i64 m] 24)).alloc (.cells #[.int .i64 n] 3)).cell? ⟨(w.alloc (.cells #[.int .i64 d, .int .i64 sl, .int .i64 b, .int .i64 m] 24)).heap.size, 0, none⟩ = some (.int .i64 n) by simp)
    rw [World.size_alloc] at this
    exact this
  obtain ⟨W, hW⟩ : ∃ W, (w.alloc (.cells #[.int .i64 d, .int .i64 sl, .int .i64 b, .int .i64 m] 24)).alloc (.cells #[.int .i64 n] 3) = W := ⟨_, rfl⟩
  rw [hW] at hb0 bG bN
  obtain ⟨N, hN'⟩ : ∃ N, rs.length = N := ⟨_, rfl⟩
  have hSW := hS.after hb0
  replace hW := hide hW
  cases hw : weekB d sl b m n
  · have e1 : roomsRead d sl b m n rs = ([], [(0, 0, 1)]) := by unfold roomsRead; rw [hw]; rfl
    rw [hN']
    go_enter Tryz.func17, Tryz.ntmps17
    go_wp2_with fail
    rw [hW.out]
    refine (tgWeek_walk d sl b m n W).mono ?_
    rintro e w1 ⟨rfl, hb1⟩
    rw [hw]
    have hb := ext_trans hb0 hb1
    clear hW hb0 hb1 bG bN hSW hS hR hs
    go_wp2_with fail
    refine (invalid_walk w1).mono ?_
    rintro e w2 ⟨v, rfl, hp, hb2⟩
    go_wp2
    go_ret3
    exact ⟨_, _, _, rfl, by rw [e1]; exact Own.nil, by rw [e1]; exact owns_lower hp hb.size, ext_trans hb hb2⟩
  · have e1 : roomsRead d sl b m n rs = ((readRoom d sl b m n rs).ls, (readRoom d sl b m n rs).ps) := by unfold roomsRead; rw [hw]; rfl
    rw [hN']
    go_enter Tryz.func17, Tryz.ntmps17
    go_wp2_with fail
    rw [hW.out]
    refine (tgWeek_walk d sl b m n W).mono ?_
    rintro e w1 ⟨rfl, hb1⟩
    rw [hw]
    have hb := ext_trans hb0 hb1
    have hC : Cl w.heap.size (w.heap.size + 1) d sl b m n w1 := by
      obtain ⟨g0, g1, g2, g3⟩ := bG
      exact ⟨cell_later hb1 g0, cell_later hb1 g1, cell_later hb1 g2, cell_later hb1 g3, cell_later hb1 bN⟩
    have hR1 := (hR.below hb).more hb.size
    have hcall := rread_walk w.heap.size (w.heap.size + 1) d sl b m n A rs cap w1 (hSW.after hb1) hC hR1 hN hs
    rw [hN'] at hcall
    clear hW hb0 hb1 bG bN hSW hS hR hs hR1 hC
    go_wp2_with fail
    refine hcall.mono ?_
    rintro e w2 ⟨v6, v7, v8, rfl, hG⟩
    have hL := hG.ls
    have hP := hG.ps
    have hb2 := hG.below
    clear hcall
    go_wp2
    go_ret3
    exact ⟨_, _, _, rfl, by rw [e1]; exact hL.lower hb.size, by rw [e1]; exact owns_lower hP hb.size, ext_trans hb hb2⟩
def RoomReads (d sl b m n : Int) (rs : List Rec) (w : World) (e : Ending) (w' : World) : Prop :=
  ∃ v6 v8, e = .returned (.tuple #[v6, v8]) ∧ RoomsOwn w.heap.size w' v6 (roomsRead d sl b m n rs).1 ∧ ProbsOwn w.heap.size w' v8 (roomsRead d sl b m n rs).2 ∧ Below w.heap.size w w'
set_option maxHeartbeats 4000000 in
theorem rfread_walk (d sl b m n : Int) (A : Option Addr) (rs : List Rec) (cap : Nat) (w : World) (hS : Std w) (hR : RecsAt w.heap.size w A rs) (hN : rs.length ≤ 4000000000000) (hs : ∀ r ∈ rs, ∀ f ∈ r.2, f.1.size < 1073741824) :
    Calls Tryz.prog 6 #[.slice A rs.length cap, .agg #[.int .i64 d, .int .i64 sl, .int .i64 b, .int .i64 m], .int .i64 n] w fun e w' => RoomReads d sl b m n rs w e w' := by
  have hb0 : Below w.heap.size w (w.alloc (.cells #[.int .i64 d, .int .i64 sl, .int .i64 b, .int .i64 m] 24)) := (by repeat (first | exact Below.refl _ _ | refine ext_alloc ?_ _ | refine ext_drewN ?_ _ | refine ext_drew ?_ | refine ext_trans ?_ (by assumption)))
  have hcall := rlines_walk d sl b m n A rs cap _ (hS.after hb0) ((hR.below hb0).more hb0.size) hN hs
  obtain ⟨N, hN'⟩ : ∃ N, rs.length = N := ⟨_, rfl⟩
  rw [hN'] at hcall ⊢
  clear hR hs hS
  go_enter Tryz.func6, Tryz.ntmps6
  go_wp2_with fail
  refine hcall.mono ?_
  rintro e w2 ⟨v6, v7, v8, rfl, hL, hP, hb2⟩
  clear hcall
  go_wp2
  go_ret2
  exact ⟨_, _, rfl, hL.lower hb0.size, owns_lower hP hb0.size, ext_trans hb0 hb2⟩
end Go.Proofs.YtnbcaklnpflihaaGreatDoor

namespace Go.Proofs.YtnbcaklnpflihaaGreatDoor
open Go.RowKit
set_option maxRecDepth 100000

def RoomCut (W : World) (gb rb off : Nat) (d sl b m n line : Int) (u : Value) (fs : List Fld) (k ee : Int) (e : Ending) (w' : World) : Prop :=
  ∃ (z bl : ByteArray) (nn : Int) (l : List ByteArray) (ts : List T4) (A3 : Option Addr) (n3 c3 : Nat) (A4 : Option Addr) (n4 c4 : Nat), e = .returned (.tuple #[.agg #[.string z, .string bl, .int .i64 nn, .slice A3 n3 c3, .slice A4 n4 c4], .int .i64 k, .int .i64 ee]) ∧
    Own kStr 9 [] 0 W.heap.size w' (.slice A3 n3 c3) l ∧ TimesOwn W.heap.size w' (.slice A4 n4 c4) ts ∧ (ee = 0 → (z, bl, nn, l, ts) = roomOf d sl b m n fs) ∧ Below W.heap.size W w' ∧ Cn6 gb 0 (.int .i64 d) gb 1 (.int .i64 sl) gb 2 (.int .i64 b) gb 3 (.int .i64 m) rb off (.int .i64 line) rb ((off + 1)) u w' ∧ W.heap.size ≤ w'.heap.size
theorem room_cut {wr W : World} {gb rb off : Nat} {d sl b m n line : Int} {F : Option Addr} {fs : List Fld} {c : Nat} {A : Option Addr} {ls : List Room} {cr : Nat} {k ee : Int} {u : Value} (_hu : u = .slice F fs.length c) (hke : roomKE d sl b m n fs ls = (k, ee)) (hS : Std wr) (hW : Wds wr) (hD : Dys wr)
    (hF : FieldsAt wr.heap.size wr F fs) (hq : ls.length ≤ 16) (hs : ∀ f ∈ fs, f.1.size < 1073741824) (hX : At kRoom (· < wr.heap.size) wr A ls) (hR : Cn6 gb 0 (.int .i64 d) gb 1 (.int .i64 sl) gb 2 (.int .i64 b) gb 3 (.int .i64 m) rb off (.int .i64 line) rb ((off + 1)) u wr) (hb : Below wr.heap.size wr W) :
    Calls Tryz.prog 19 #[.agg #[.int .i64 line, .slice F fs.length c], .agg #[.int .i64 d, .int .i64 sl, .int .i64 b, .int .i64 m], .int .i64 n, .slice A ls.length cr] W fun e w' => RoomCut W gb rb off d sl b m n line u fs k ee e w' :=
  (r7one_walk d sl b m n line F fs c A ls cr W (hS.after hb) (hW.after hb hS) (hD.after hb hS) ((hF.below hb).more hb.size) hq hs ((hX.later hb).up hb.size)).mono fun e w' ⟨z, bl, nn, l, ts, v3, v4, he, h3, h4, hz, hb'⟩ => by
    obtain ⟨A3, c3, rfl⟩ := h3.form
    obtain ⟨A4, c4, rfl⟩ := owns_form h4
    rw [hke] at he hz
    exact ⟨z, bl, nn, l, ts, A3, _, c3, A4, _, c4, he, h3, h4, hz, hb', hR.later (ext_trans hb hb'), hb'.size⟩
/-- What reading one record leaves. -/
def RoomBox (wr : World) (d sl b m n : Int) (fs : List Fld) (k e : Int) (s11 s12 s13 : Value) (wx : World) : Prop :=
  ∃ (tb : Nat) (z bl : ByteArray) (nn : Int) (l : List ByteArray) (ts : List T4) (A3 : Option Addr) (n3 c3 : Nat) (A4 : Option Addr) (n4 c4 : Nat), s11 = .pointer (some ⟨tb, 0, none⟩) ∧ s12 = .int .i64 k ∧ s13 = .int .i64 e ∧
    (wx.cell? ⟨tb, 0, none⟩ = some (.string z) ∧ wx.cell? ⟨tb, 1, none⟩ = some (.string bl) ∧ wx.cell? ⟨tb, 2, none⟩ = some (.int .i64 nn) ∧ wx.cell? ⟨tb, 3, none⟩ = some (.slice A3 n3 c3) ∧ wx.cell? ⟨tb, 4, none⟩ = some (.slice A4 n4 c4)) ∧
    Own kStr 9 [] 0 wr.heap.size wx (.slice A3 n3 c3) l ∧ TimesOwn wr.heap.size wx (.slice A4 n4 c4) ts ∧ (e = 0 → (z, bl, nn, l, ts) = roomOf d sl b m n fs) ∧ Below wr.heap.size wr wx
theorem roombox_new {wr w2 : World} {d sl b m n : Int} {fs : List Fld} {k e nn : Int} {z bl : ByteArray} {l : List ByteArray} {ts : List T4} {A3 A4 : Option Addr} {n3 c3 n4 c4 C : Nat} (hC : wr.heap.size ≤ C) (h3 : Own kStr 9 [] 0 C w2 (.slice A3 n3 c3) l) (h4 : TimesOwn C w2 (.slice A4 n4 c4) ts) (ht : e = 0 → (z, bl, nn, l, ts) = roomOf d sl b m n fs) (hb : Below wr.heap.size wr w2) (t : TypeId) :
    RoomBox wr d sl b m n fs k e (.pointer (some ⟨w2.heap.size, 0, none⟩)) (.int .i64 k) (.int .i64 e) (w2.alloc (.cells #[.string z, .string bl, .int .i64 nn, .slice A3 n3 c3, .slice A4 n4 c4] t)) :=
  ⟨_, z, bl, nn, l, ts, A3, n3, c3, A4, n4, c4, rfl, rfl, rfl, by simp, (h3.later (ext_alloc (Below.refl _ _) _)).lower hC, owns_lower (h4.alloc _) hC, ht, ext_alloc hb _⟩
theorem roombox_set {wr w2 : World} {d sl b m n : Int} {fs : List Fld} {k e nn : Int} {z bl : ByteArray} {l : List ByteArray} {ts : List T4} {A3 A4 : Option Addr} {n3 c3 n4 c4 C x : Nat} {a0 a1 a2 a3 a4 : Value} (hx : wr.heap.size ≤ x) (hC : x < C)
    (c0 : w2.cell? ⟨x, 0, none⟩ = some a0) (c1 : w2.cell? ⟨x, 1, none⟩ = some a1) (c2 : w2.cell? ⟨x, 2, none⟩ = some a2) (cc3 : w2.cell? ⟨x, 3, none⟩ = some a3) (cc4 : w2.cell? ⟨x, 4, none⟩ = some a4)
    (h3 : Own kStr 9 [] 0 C w2 (.slice A3 n3 c3) l) (h4 : TimesOwn C w2 (.slice A4 n4 c4) ts) (ht : e = 0 → (z, bl, nn, l, ts) = roomOf d sl b m n fs) (hb : Below wr.heap.size wr w2) :
    RoomBox wr d sl b m n fs k e (.pointer (some ⟨x, 0, none⟩)) (.int .i64 k) (.int .i64 e) (set5 w2 x (.string z) (.string bl) (.int .i64 nn) (.slice A3 n3 c3) (.slice A4 n4 c4)) := by
  have ho : Only x w2 (set5 w2 x (.string z) (.string bl) (.int .i64 nn) (.slice A3 n3 c3) (.slice A4 n4 c4)) := set5_only (Only.refl x w2) (Or.inl rfl)
  exact ⟨x, z, bl, nn, l, ts, A3, n3, c3, A4, n4, c4, rfl, rfl, rfl, set5_cells c0 c1 c2 cc3 cc4, (h3.noting ho hC).lower (by omega), owns_lower (times_noting h4 ho hC) (by omega), ht, below_set5 hb hx⟩
def R7Loop2 (d sl b m n : Int) (rs : List Rec) (w : World) (v8 v9 i : Value) (wr : World) : Prop :=
  ∃ j : Nat, j ≤ rs.length ∧ i = .int .i64 j ∧ GR w v8 (.slice none 0 0) v9 (readRoom d sl b m n (rs.take j)).ls [] (readRoom d sl b m n (rs.take j)).ps wr
set_option maxHeartbeats 8000000 in
theorem r7Read_walk (d sl b m n : Int) (A : Option Addr) (rs : List Rec) (cap : Nat) (w : World) (hS : Std w) (hW : Wds w) (hD : Dys w) (hR : RecsAt w.heap.size w A rs) (hN : rs.length ≤ 4000000000000) (hs : ∀ r ∈ rs, ∀ f ∈ r.2, f.1.size < 1073741824) :
    Calls Tryz.prog 7 #[.slice A rs.length cap, .agg #[.int .i64 d, .int .i64 sl, .int .i64 b, .int .i64 m], .int .i64 n] w fun e w' => RoomReads d sl b m n rs w e w' := by
  have hb0 : Below w.heap.size w (w.alloc (.cells #[.int .i64 d, .int .i64 sl, .int .i64 b, .int .i64 m] 24)) := ext_alloc (Below.refl _ _) _
  have bG := Box4.new w 24 (.int .i64 d) (.int .i64 sl) (.int .i64 b) (.int .i64 m)
  obtain ⟨N, hNN⟩ : ∃ N, rs.length = N := ⟨_, rfl⟩
  rw [hNN] at hN ⊢
  replace hNN := hide hNN
  replace hs := hide hs
  cases hw : weekB d sl b m n
  · have e1 : roomsRead d sl b m n rs = ([], [(0, 0, 1)]) := by unfold roomsRead; rw [hw]; rfl
    clear hS hW hD hR bG
    go_enter Tryz.func7, Tryz.ntmps7
    go_wp2_with fail
    refine (r6Usable_walk d sl b m n _).mono ?_
    rintro e w1 ⟨rfl, hb1⟩
    rw [hw]
    have hbw := ext_trans hb0 hb1
    go_wp2
    go_ret2
    exact ⟨_, _, rfl, by rw [e1]; exact Own.nil, by rw [e1]; exact owns_lower (probs_one w1 1 0 0 1 rfl) hbw.size, ext_alloc hbw _⟩
  · have e1 : roomsRead d sl b m n rs = ((readRoom d sl b m n rs).ls, (readRoom d sl b m n rs).ps) := by unfold roomsRead; rw [hw]; rfl
    replace e1 := hide e1
    obtain ⟨iP, hiP, hP0, hP1, hP2⟩ := info_parts infoProb
    obtain ⟨gb, hgb⟩ : ∃ gb, w.heap.size = gb := ⟨_, rfl⟩
    go_enter Tryz.func7, Tryz.ntmps7
    go_wp2_with fail
    rw [hgb] at bG
    refine (r6Usable_walk d sl b m n _).mono ?_
    rintro e w1 ⟨rfl, hb1⟩
    rw [hw]
    have hbw1 := ext_trans hb0 hb1
    have bG1 := bG.later hb1
    have hgl1 := bG1.lt
    have hS1 := hS.after hbw1
    have hW1 := hW.after hbw1 hS
    have hD1 := hD.after hbw1 hS
    have hR1 := (hR.below hbw1).more hbw1.size
    obtain ⟨g0, g1, g2, g3⟩ := bG1
    clear hb0 hb1 bG hR hS hW hD
    replace hgb := hide hgb
    go_wp2
    go_loopw [8, 9, 10] (fun v8 v9 i wr => R7Loop2 d sl b m n rs w1 v8 v9 i wr) (fun _ _ i _ => N - (intOf i).toNat)
    case atStart => exact ⟨0, Nat.zero_le _, rfl, Own.nil, Own.nil, World.ownsRow_nil _ _ _ _, Below.refl _ _⟩
    case round =>
      obtain ⟨j, hj, rfl, hG⟩ := hrel
      rw [hNN.out] at hj
      by_cases hlt : j < N
      · obtain ⟨r, hr⟩ : ∃ r, rs[j]? = some r := ⟨_, List.getElem?_eq_getElem (by rw [hNN.out]; exact hlt)⟩
        obtain ⟨rb, off, rfl, hrb, hcell⟩ := (hR1.below hG.below) (by rw [hNN.out]; omega)
        obtain ⟨F, c, k0, k1, hF⟩ := hcell j r hr
        have hsr := hide (hs.out r (List.mem_of_getElem? hr))
        have hstep := hide (readAll_take (n := 5) (P := roomP d sl b m n) (f := roomOf d sl b m n) rs j r hr)
        obtain ⟨st, hst⟩ : ∃ st, readAll 5 (roomP d sl b m n) (roomOf d sl b m n) (rs.take j) = st := ⟨_, rfl⟩
        have hlen := readRoom_len d sl b m n (rs.take j)
        rw [List.length_take, hNN.out] at hlen
        unfold readRoom at hG hlen
        rw [hst] at hG hlen hstep
        obtain ⟨n1, n2, n3⟩ := hlen
        obtain ⟨line, fs⟩ := r
        dsimp only at k0 k1 hF hsr
        have hz := hG.below.size
        have hgr : gb < wr.heap.size := by omega
        have hrbr : rb < wr.heap.size := by omega
        have h3N : st.ps.length ≤ 4000000000000 := by omega
        clear hcell hr hst n2 n3
        obtain ⟨A6, c6, rfl⟩ := hG.ls.form
        have hat := hG.ls.any'
        obtain ⟨⟨k, er⟩, hke⟩ : ∃ p, roomKE d sl b m n fs st.ls = p := ⟨_, rfl⟩
        have hstp := room_step (d := d) (sl := sl) (b := b) (m := m) (n := n) (line := line) (fs := fs) (st := st) n1
        have hpl := room_place d sl b m n fs st.ls
        obtain ⟨nf, hnf⟩ : ∃ nf, fs.length = nf := ⟨_, rfl⟩
        have hk1 : (Value.slice F nf c) = .slice F fs.length c := by rw [hnf]
        rw [hnf] at k1
        have hRC : Cn6 gb 0 (.int .i64 d) gb 1 (.int .i64 sl) gb 2 (.int .i64 b) gb 3 (.int .i64 m) rb ((off + j * 2)) (.int .i64 line) rb ((off + j * 2 + 1)) (.slice F nf c) wr := ⟨cell_later hG.below g0, cell_later hG.below g1, cell_later hG.below g2, cell_later hG.below g3, k0, k1⟩
        have hone := fun (W : World) (h : Below wr.heap.size wr W) => room_cut (cr := c6) hk1 hke (hS1.after hG.below) (hW1.after hG.below hS1) (hD1.after hG.below hS1) (hF.more hz) n1 hsr.out hat hRC h
        rw [hke] at hstp hpl
        rw [hnf] at hone
        dsimp only at hstp hpl
        replace hstp := hide (hstep.out.trans hstp)
        replace hnf := hide hnf
        replace hk1 := hide hk1
        replace hone := hide hone
        have hj0 : (0 : Int) ≤ (j : Int) := by omega
        have hj1 : (j : Int) < (N : Int) := by omega
        have hRd := hRC.drew
        obtain ⟨q0, q1, q2, q3, q4, q5⟩ := id hRC
        clear hke k0 k1 hat hstep
        have hrefl := Below.refl wr.heap.size wr
        go_upto_region 8 with fail
        go_cut [11, 12, 13] (fun s11 s12 s13 wx => RoomBox wr d sl b m n fs k er s11 s12 s13 wx)
        case first =>
          go_region_held3 (fun W' => W'.cell? ⟨gb, 0, none⟩ = some (.int .i64 d) ∧ W'.cell? ⟨gb, 1, none⟩ = some (.int .i64 sl) ∧ W'.cell? ⟨gb, 2, none⟩ = some (.int .i64 b) ∧ W'.cell? ⟨gb, 3, none⟩ = some (.int .i64 m) ∧ W'.cell? ⟨rb, (off + j * 2), none⟩ = some (.int .i64 line) ∧ W'.cell? ⟨rb, (off + j * 2 + 1), none⟩ = some (.slice F nf c)) (first | ((repeat (first | (with_reducible assumption) | (with_reducible refine Cn6.alloc ?_ _) | (with_reducible refine Cn6.drew ?_) | (with_reducible refine Cn6.set ?_ ?_ ?_ ?_ ?_ ?_ ?_ _) | omega)); done)) (first | (go_at_call 19; refine (hone.out _ (by repeat (first | (with_reducible assumption) | (with_reducible refine ext_alloc ?_ _) | (with_reducible refine ext_drew ?_)))).mono ?_; rintro e w2 ⟨z, bl, nn, l, ts, A3, n3, c3, A4, n4, c4, rfl, h3, h4, ht, hb2, hc2, hz2⟩; (try simp only [World.size_alloc, size_drew'] at hz2); (first | (have x0 : w2.cell? ⟨wr.heap.size, 0, none⟩ = some (.string ⟨#[]⟩) := cell_later hb2 (by first | (simp; done) | omega); have x1 : w2.cell? ⟨wr.heap.size, 1, none⟩ = some (.string ⟨#[]⟩) := cell_later hb2 (by first | (simp; done) | omega); have x2 : w2.cell? ⟨wr.heap.size, 2, none⟩ = some (.int .i64 0) := cell_later hb2 (by first | (simp; done) | omega); have x3 : w2.cell? ⟨wr.heap.size, 3, none⟩ = some (.slice none 0 0) := cell_later hb2 (by first | (simp; done) | omega); have x4 : w2.cell? ⟨wr.heap.size, 4, none⟩ = some (.slice none 0 0) := cell_later hb2 (by first | (simp; done) | omega); have xf0 : w2.frozen? ⟨wr.heap.size, 0, none⟩ = false := (hb2.frozen (p := ⟨wr.heap.size, 0, none⟩) (by first | (simp; done) | omega)).trans (by first | (simp; done) | assumption); have xf1 : w2.frozen? ⟨wr.heap.size, 1, none⟩ = false := (hb2.frozen (p := ⟨wr.heap.size, 1, none⟩) (by first | (simp; done) | omega)).trans (by first | (simp; done) | assumption); have xf2 : w2.frozen? ⟨wr.heap.size, 2, none⟩ = false := (hb2.frozen (p := ⟨wr.heap.size, 2, none⟩) (by first | (simp; done) | omega)).trans (by first | (simp; done) | assumption); have xf3 : w2.frozen? ⟨wr.heap.size, 3, none⟩ = false := (hb2.frozen (p := ⟨wr.heap.size, 3, none⟩) (by first | (simp; done) | omega)).trans (by first | (simp; done) | assumption); have xf4 : w2.frozen? ⟨wr.heap.size, 4, none⟩ = false := (hb2.frozen (p := ⟨wr.heap.size, 4, none⟩) (by first | (simp; done) | omega)).trans (by first | (simp; done) | assumption)) | skip)))
          · go_wp2_with fail
            go_meet
            exact roombox_new (wr := wr) (C := wr.drew.heap.size) (Nat.le_refl _) h3 h4 ht (below_drewA hb2) _
          · go_wp2_with fail
            go_meet
            exact roombox_set (wr := wr) (C := wr.heap.size + 1) (Nat.le_refl _) (Nat.lt_succ_self _) x0 x1 x2 x3 x4 (by have h := h3; simp only [size_drew', World.size_alloc] at h; exact h) (by have h := h4; simp only [size_drew', World.size_alloc] at h; exact h) ht (below_drewB hb2)
        case rest =>
          obtain ⟨tb, z, bl, nn, l, ts, A3, n3, c3, A4, n4, c4, rfl, rfl, rfl, ⟨t0, t1, t2, t3, t4⟩, h3, h4, ht, hbx⟩ := hcut
          have hGx := hG.later hbx
          have hFw := (hF.below (hbx.mono hz)).more hGx.below.size
          have hzc := hbx.size
          have hrbc : rb < wc.heap.size := by omega
          replace q4 := cell_later hbx q4
          replace q5 := cell_later hbx q5
          have htb : tb < wc.heap.size := World.block_lt_of_cell? _ _ t0
          clear hG hF hRC hRd q0 q1 q2 q3 hone hrefl
          by_cases he : er = 0
          · subst he
            have hrm := ht rfl
            have hst2 := hide (hstp.out.trans (if_pos rfl))
            rw [← hrm] at hst2
            have n31 : st.ls.length ≤ 100000 := by omega
            have h3w := h3.lower hz
            have h4w := own_times (owns_lower h4 hz)
            clear hstp ht hpl q4 q5 hFw hrm h3 h4
            go_wp2_with (at_builtin; refine wpg_ls apart_room apd_room (by decide) (by decide) rfl _ _ rfl rfl (hGx.alloc _) n31 ⟨wc.heap.size, 0, none⟩ 1 rfl (z, bl, nn, l, ts) [.string z, .string bl, .int .i64 nn, .slice A3 n3 c3, .slice A4 n4 c4] (room_rep (own_rep2 (h3w.alloc _) (by simp)) (own_rep2 (h4w.alloc _) (by simp))) (World.news_of_block (cs := #[.string z, .string bl, .int .i64 nn, .slice A3 n3 c3, .slice A4 n4 c4]) (t := 47) (fr := (0, 0)) (heap_alloc_new _ _)) ?_; intro v5 w5 hG5)
            clear hGx h3w h4w t0 t1 t2 t3 t4
            go_wp2
            go_roundw
            case rel => exact ⟨j + 1, by rw [hNN.out]; omega, by go_num, by unfold readRoom; rw [hst2.out]; exact hG5⟩
            case measure => simp [intOf]; omega
          · have he2 : (er != 0) = true := by simpa using he
            have hst2 := hide (hstp.out.trans (if_neg he))
            have hk : k < fs.length := hpl
            have hfnd := r7Found_walk line F fs c k er wc hFw hk
            rw [hnf.out] at hfnd
            replace he := hide he
            clear hstp ht hpl t0 t1 t2 t3 t4 h3 h4
            go_wp2_with fail
            refine hfnd.mono ?_
            rintro e w3 ⟨rfl, hb3⟩
            have hG3 := hGx.later hb3
            have hz3 := hG3.below.size
            clear hGx hFw q4 q5 hb3 hfnd
            go_wp2_with (at_builtin; refine wpList_append_own _ rfl _ _ 30 rfl w1.heap.size 56 iP (.agg #[.int .i64 0, .int .i64 0, .int .i64 0, .int .i64 0]) 4 32 Tryz.underlying30 hiP hP0 hP1 hP2 rfl (by decide) _ _ _ rfl (hG3.alloc _).ps ⟨w3.heap.size, 0, none⟩ 1 1 (encP (line, placeOf fs k, er)) rfl rfl (new_prob _ _ _ _ _) (one_prob _) ?c3 ?c4 ?c5 ?_)
            case c3 => unfold maxLen; omega
            case c4 => omega
            case c5 => rw [World.size_alloc]; omega
            intro v' w4 hPn hgrow _
            have hGn := (hG3.alloc _).prob (p := (line, placeOf fs k, er)) apart_room hgrow hPn
            clear hG3 hgrow hPn
            go_wp2
            go_roundw
            case rel => exact ⟨j + 1, by rw [hNN.out]; omega, by go_num, by unfold readRoom; rw [hst2.out]; exact hGn⟩
            case measure => simp [intOf]; omega
      · obtain rfl : j = N := by omega
        have hall : Hid (rs.take j = rs) := hide (by rw [← hNN.out]; exact List.take_length)
        rw [hall.out] at hG
        have hL := hG.ls
        have hP := hG.ps
        have hbw := ext_trans hbw1 hG.below
        clear hall g0 g1 g2 g3 hG
        go_wp2
        go_ret2
        exact ⟨_, _, rfl, by rw [e1.out]; exact hL.lower hbw1.size, by rw [e1.out]; exact owns_lower hP hbw1.size, hbw⟩
end Go.Proofs.YtnbcaklnpflihaaGreatDoor

namespace Go.Proofs.YtnbcaklnpflihaaGreatDoor
open Go.RowKit
set_option maxRecDepth 100000

def f07 : List ByteArray := [⟨#[82, 49]⟩, ⟨#[66]⟩, ⟨#[51, 48]⟩, ⟨#[108, 97, 98, 59, 98, 101, 97, 109, 101, 114]⟩, ⟨#[77, 111, 32, 49, 45, 50]⟩]
def room07 : Room := (⟨#[82, 49]⟩, ⟨#[66]⟩, 30, [⟨#[98, 101, 97, 109, 101, 114]⟩, ⟨#[108, 97, 98]⟩], [(15, 0, 0, 2)])
theorem read07 : roomsRead 5 8 480 45 4 (plainR 1 [f07]) = ([room07], []) := by kernel_rfl
set_option maxHeartbeats 800000 in
theorem rfOpen_walk (v0 v1 v2 v3 : Value) (A : Option Addr) (n c : Nat) (ts : Nat → T4) (b1 b2 b3 b4 : Int) (w : World) (hn : n ≤ 9223372036854775807)
    (hX : CellsAt w.heap.size w A 4 n fun j => encT (ts j)) :
    Calls Tryz.prog 16 #[.agg #[v0, v1, v2, v3, .slice A n c], .agg #[.int .i64 b1, .int .i64 b2, .int .i64 b3, .int .i64 b4]] w fun e w' => e = .returned (.bool (!orTo (fun j => overlapB (ts j).1 (ts j).2.1 (ts j).2.2.1 (ts j).2.2.2 b1 b2 b3 b4) n)) ∧ Below w.heap.size w w' := by
  have hb0 : Below w.heap.size w ((w.alloc (.cells #[v0, v1, v2, v3, .slice A n c] 47)).alloc (.cells #[.int .i64 b1, .int .i64 b2, .int .i64 b3, .int .i64 b4] 50)) := (by repeat (first | exact Below.refl _ _ | refine ext_alloc ?_ _ | refine ext_drewN ?_ _ | refine ext_drew ?_ | refine ext_trans ?_ (by assumption)))
  have hcall := apart_walk A n c ts b1 b2 b3 b4 ((w.alloc (.cells #[v0, v1, v2, v3, .slice A n c] 47)).alloc (.cells #[.int .i64 b1, .int .i64 b2, .int .i64 b3, .int .i64 b4] 50)) hn
    (fun hn' => by obtain ⟨b, off, e, h1, h2⟩ := (hX.below hb0) hn'; exact ⟨b, off, e, by rw [World.size_alloc, World.size_alloc]; omega, h2⟩)
  clear hX
  obtain ⟨r, hr⟩ : ∃ r, (!orTo (fun j => overlapB (ts j).1 (ts j).2.1 (ts j).2.2.1 (ts j).2.2.2 b1 b2 b3 b4) n) = r := ⟨_, rfl⟩
  rw [hr] at hcall ⊢
  clear hr
  go_enter Tryz.func16, Tryz.ntmps16
  go_wp2_with fail
  refine hcall.mono ?_
  rintro e w' ⟨rfl, hb⟩
  go_wp2
  go_ret
  exact ⟨rfl, ext_trans hb0 hb⟩
end Go.Proofs.YtnbcaklnpflihaaGreatDoor

namespace Go.Proofs.YtnbcaklnpflihaaGreatDoor
open Go.RowKit
set_option maxRecDepth 100000

theorem open07 : (!orTo (fun j => overlapB (([(15, 0, 0, 2)] : List T4).getD j (0, 0, 0, 0)).1 (([(15, 0, 0, 2)] : List T4).getD j (0, 0, 0, 0)).2.1 (([(15, 0, 0, 2)] : List T4).getD j (0, 0, 0, 0)).2.2.1 (([(15, 0, 0, 2)] : List T4).getD j (0, 0, 0, 0)).2.2.2 15 0 0 2) 1) = false := by decide +kernel
set_option maxHeartbeats 4000000 in
theorem awake07_walk (w : World) (hS : Std w) :
    Calls Tryz.prog 5 #[] w fun e w' => e = .returned (.bool true) ∧ Below w.heap.size w w' := by
  obtain ⟨W, hW⟩ : ∃ W, (w.alloc (.cells #[.string ⟨#[82, 49]⟩, .string ⟨#[66]⟩, .string ⟨#[51, 48]⟩, .string ⟨#[108, 97, 98, 59, 98, 101, 97, 109, 101, 114]⟩, .string ⟨#[77, 111, 32, 49, 45, 50]⟩] 9)).alloc (.cells #[.slice (some ⟨w.heap.size, 0, none⟩) 5 5] 44) = W := ⟨_, rfl⟩
  have hb0 : Below w.heap.size w W := by rw [← hW]; exact (by repeat (first | exact Below.refl _ _ | refine ext_alloc ?_ _ | refine ext_drewN ?_ _ | refine ext_drew ?_ | refine ext_trans ?_ (by assumption)))
  have hX : ListsIn W.heap.size W (some ⟨w.heap.size + 1, 0, none⟩) [f07] := by
    rw [← hW]
    intro _
    refine ⟨w.heap.size + 1, 0, rfl, by simp, fun j x hx => ?_⟩
    match j, hx with
    | 0, hx =>
      simp at hx
      subst hx
      have c0 : ∀ A : World, (A.alloc (.cells #[.slice (some ⟨w.heap.size, 0, none⟩) 5 5] 44)).cell? ⟨A.heap.size, 0, none⟩ = some (.slice (some ⟨w.heap.size, 0, none⟩) 5 5) := fun A => by simp
      have c1 := c0 (w.alloc (.cells #[.string ⟨#[82, 49]⟩, .string ⟨#[66]⟩, .string ⟨#[51, 48]⟩, .string ⟨#[108, 97, 98, 59, 98, 101, 97, 109, 101, 114]⟩, .string ⟨#[77, 111, 32, 49, 45, 50]⟩] 9))
      rw [World.size_alloc] at c1
      refine ⟨some ⟨w.heap.size, 0, none⟩, 5, c1, fun _ => ⟨w.heap.size, 0, rfl, by simp; omega, fun k z hz => ?_⟩⟩
      unfold f07 at hz
      match k, hz with
      | 0, hz => simp at hz; subst hz; simp
      | 1, hz => simp at hz; subst hz; simp
      | 2, hz => simp at hz; subst hz; simp
      | 3, hz => simp at hz; subst hz; simp
      | 4, hz => simp at hz; subst hz; simp
      | k + 5, hz => simp at hz
    | j + 1, hx => simp at hx
  have hpl := plain_walk (some ⟨w.heap.size + 1, 0, none⟩) [f07] 1 W hX (by decide) (by decide)
  have hS0 := hS.after hb0
  replace hW := hide hW
  clear hX
  go_enter Tryz.func5, Tryz.ntmps5
  go_wp2_with fail
  rw [hW.out]
  refine hpl.mono ?_
  clear hpl
  rintro e w1 ⟨v, rfl, hR, hb1⟩
  obtain ⟨A1, c1, rfl⟩ : ∃ A1 c1, v = .slice A1 1 c1 := by obtain ⟨us, -, h, -⟩ := hR; exact owns_form h
  have hb := ext_trans hb0 hb1
  have hR1 := recs_at hR
  have hS1 := hS0.after hb1
  have hcall := rfread_walk 5 8 480 45 4 A1 (plainR 1 [f07]) c1 w1 hS1 hR1 (by decide) (by decide)
  clear hb0 hb1 hS0 hR hR1 hW
  go_wp2_with fail
  refine hcall.mono ?_
  clear hcall
  rintro e w3 ⟨v6, v8, rfl, hL, hP, hb3⟩
  rw [read07] at hL hP
  obtain ⟨A6, c6, rfl, -, hat⟩ := hL.any
  obtain ⟨A8, c8, rfl⟩ : ∃ A8 c8, v8 = .slice A8 0 c8 := owns_form hP
  obtain ⟨gb, go, A3, c3, A4, c4, rfl, -, hgl, ⟨q0, q1, q2, q3, q4⟩, l3, l4, a3, a4⟩ := hat.any.room (j := 0) (x := room07) rfl
  rw [Nat.zero_mul, Nat.add_zero] at q0 q1 q2 q3 q4
  obtain ⟨fb, fo, rfl, -, hfl, x0⟩ := a3.str (j := 0) rfl
  rw [Nat.add_zero] at x0
  have hC := cells_of_at a4.lo
  obtain ⟨tb, tof, rfl, htl, tc⟩ := hC (by decide)
  have t0 := tc 0 (by decide) 0 _ rfl
  have t1 := tc 0 (by decide) 1 _ rfl
  have t2 := tc 0 (by decide) 2 _ rfl
  have t3 := tc 0 (by decide) 3 _ rfl
  rw [Nat.zero_mul, Nat.add_zero] at t0 t1 t2 t3
  dsimp only [room07, List.getD] at t0 t1 t2 t3
  replace hb := ext_trans hb hb3
  have hCn : Cn10 gb go (.string ⟨#[82, 49]⟩) gb (go + 1) (.string ⟨#[66]⟩) gb (go + 2) (.int .i64 30) gb (go + 3) (.slice (some ⟨fb, fo, none⟩) 2 c3) gb (go + 4) (.slice (some ⟨tb, tof, none⟩) 1 c4) fb fo (.string ⟨#[98, 101, 97, 109, 101, 114]⟩) tb tof (.int .i64 15) tb (tof + 1) (.int .i64 0) tb (tof + 2) (.int .i64 0) tb (tof + 3) (.int .i64 2) w3 := ⟨q0, q1, q2, q3, q4, x0, t0, t1, t2, t3⟩
  have hopen := hide (fun (V : World) (hV : Below w3.heap.size w3 V) => (rfOpen_walk (.string ⟨#[82, 49]⟩) (.string ⟨#[66]⟩) (.int .i64 30) (.slice (some ⟨fb, fo, none⟩) 2 c3) (some ⟨tb, tof, none⟩) 1 c4 (fun j => ([(15, 0, 0, 2)] : List T4).getD j (0, 0, 0, 0)) 15 0 0 2 V (by omega) ((hC.below hV).more hV.size)).mono fun _ _ ⟨he, hb⟩ => (⟨he.trans (by rw [open07]), ext_trans hV hb, hCn.later (ext_trans hV hb)⟩ : _ = Ending.returned (.bool false) ∧ Below w3.heap.size w3 _ ∧ Cn10 gb go (.string ⟨#[82, 49]⟩) gb (go + 1) (.string ⟨#[66]⟩) gb (go + 2) (.int .i64 30) gb (go + 3) (.slice (some ⟨fb, fo, none⟩) 2 c3) gb (go + 4) (.slice (some ⟨tb, tof, none⟩) 1 c4) fb fo (.string ⟨#[98, 101, 97, 109, 101, 114]⟩) tb tof (.int .i64 15) tb (tof + 1) (.int .i64 0) tb (tof + 2) (.int .i64 0) tb (tof + 3) (.int .i64 2) _))
  have hCd := hCn.drew
  have hrefl := Below.refl w3.heap.size w3
  obtain ⟨z0, z1, z2, z3, z4, z5, z6, z7, z8, z9⟩ := id hCn
  clear hL hP hb3 hat a3 a4 tc hC q0 q1 q2 q3 q4 x0 t0 t1 t2 t3 l3 l4
  dsimp only [room07, List.length] at *
  go_upto_region 2 with fail
  go_region_held3 (fun W' => W'.cell? ⟨gb, go, none⟩ = some (.string ⟨#[82, 49]⟩) ∧ W'.cell? ⟨gb, go + 1, none⟩ = some (.string ⟨#[66]⟩) ∧ W'.cell? ⟨gb, go + 2, none⟩ = some (.int .i64 30) ∧ W'.cell? ⟨gb, go + 3, none⟩ = some (.slice (some ⟨fb, fo, none⟩) 2 c3) ∧ W'.cell? ⟨gb, go + 4, none⟩ = some (.slice (some ⟨tb, tof, none⟩) 1 c4) ∧ W'.cell? ⟨fb, fo, none⟩ = some (.string ⟨#[98, 101, 97, 109, 101, 114]⟩) ∧ W'.cell? ⟨tb, tof, none⟩ = some (.int .i64 15) ∧ W'.cell? ⟨tb, tof + 1, none⟩ = some (.int .i64 0) ∧ W'.cell? ⟨tb, tof + 2, none⟩ = some (.int .i64 0) ∧ W'.cell? ⟨tb, tof + 3, none⟩ = some (.int .i64 2)) (first | ((repeat (first | (with_reducible assumption) | (with_reducible refine Cn10.alloc ?_ _) | (with_reducible refine Cn10.drew ?_) | (with_reducible refine Cn10.set ?_ ?_ ?_ ?_ ?_ ?_ ?_ ?_ ?_ ?_ ?_ _) | omega)); done)) (first | (go_at_call 16; refine (hopen.out _ (by repeat (first | (with_reducible assumption) | (with_reducible refine ext_alloc ?_ _) | (with_reducible refine ext_drew ?_)))).mono ?_; rintro e w4 ⟨rfl, hb4, hx4⟩))
  all_goals
    go_wp2
    go_ret
    exact ⟨rfl, by first | exact ext_trans hb (ext_drew hb4) | exact ext_trans hb hb4⟩
end Go.Proofs.YtnbcaklnpflihaaGreatDoor

namespace Go.Proofs.YtnbcaklnpflihaaGreatDoor
open Go.RowKit
set_option maxRecDepth 100000

theorem recs_len7 {B : Nat} {w : World} {A : Option Addr} {rs : List Rec} (h : RecsAt B w A rs) (j : Nat) (hj : j < rs.length) :
    ∃ b off F c, A = some ⟨b, off, none⟩ ∧ b < B ∧ w.cell? ⟨b, off + j * 2, none⟩ = some (.int .i64 (rs.getD j (0, [])).1) ∧ w.cell? ⟨b, off + j * 2 + 1, none⟩ = some (.slice F (rs.getD j (0, [])).2.length c) := by
  obtain ⟨b, off, e, hb, hc⟩ := h (by omega)
  obtain ⟨F, c, c0, c1, -⟩ := hc j (rs.getD j (0, [])) (by rw [List.getD_eq_getElem?_getD, List.getElem?_eq_getElem hj]; rfl)
  exact ⟨b, off, F, c, e, hb, c0, c1⟩
section
variable {α : Type} {n : Nat} {P : Int → List Fld → List α → Option Prob} {f : List Fld → α}
theorem readAll_each {Pr : α → Prop} (hP : ∀ line fs ls, P line fs ls = none → Pr (f fs)) (rs : List Rec) : ∀ x ∈ (readAll n P f rs).ls, Pr x := by
  have key : ∀ (rs : List Rec) (s : RG α), (∀ x ∈ s.ls, Pr x) → ∀ x ∈ (rs.foldl (gathStep n P f) s).ls, Pr x := by
    intro rs
    induction rs with
    | nil => intro s h; exact h
    | cons r rs ih =>
      intro s h
      refine ih _ ?_
      unfold gathStep
      split
      · split
        · exact h
        · rename_i hp
          intro x hx
          rcases List.mem_append.1 hx with hx | hx
          · exact h x hx
          · simp at hx; subst hx; exact hP _ _ _ hp
      · exact h
  exact key rs ⟨[], [], []⟩ (fun x hx => by simp at hx)
end
theorem roomOf_short {d sl b m n line : Int} {fs : List Fld} {ls : List Room} (h : roomP d sl b m n line fs ls = none) : (roomOf d sl b m n fs).2.2.2.1.length ≤ 64 ∧ (roomOf d sl b m n fs).2.2.2.2.length ≤ 24 := by
  refine ⟨by show (ascS _).length ≤ 64; rw [ascS_len]; exact listV_len64 _, ?_⟩
  show ((partsOf (textAt fs 4)).map (pieceV d sl b m n)).length ≤ 24
  have h1 : fieldsR d sl b m n line fs = none := noted_no (noted_no h)
  have h2 : probOf line (colAt fs 5) (timesE d sl b m n (partsOf (textAt fs 4))) = none := by
    unfold fieldsR at h1
    cases hp : orP (orP (orP (if codeB (textAt fs 0) then none else some (line, colAt fs 1, 10)) (if codeB (textAt fs 1) then none else some (line, colAt fs 2, 10))) (numP (numS 4 (textAt fs 2)) (line, colAt fs 3, 4))) (codesP 8 line (colAt fs 4) (textAt fs 3)) with
    | some p => rw [hp] at h1; cases h1
    | none => rw [hp] at h1; exact h1
  rw [List.length_map]
  unfold probOf timesE at h2
  by_cases h24 : 24 < (partsOf (textAt fs 4)).length
  · exfalso
    by_cases hf : firstE (pieceE d sl b m n) (partsOf (textAt fs 4)) = 0
    · rw [if_pos hf, if_pos h24] at h2; cases h2
    · rw [if_neg hf, if_neg hf] at h2; cases h2
  · omega
theorem readRoom_short (d sl b m n : Int) (rs : List Rec) : ∀ x ∈ (readRoom d sl b m n rs).ls, x.2.2.2.1.length ≤ 64 ∧ x.2.2.2.2.length ≤ 24 :=
  readAll_each (Pr := fun x : Room => x.2.2.2.1.length ≤ 64 ∧ x.2.2.2.2.length ≤ 24) (fun _ _ _ h => roomOf_short h) rs
theorem roomsRead_short (d sl b m n : Int) (rs : List Rec) : (roomsRead d sl b m n rs).1.length ≤ 16 ∧ ∀ x ∈ (roomsRead d sl b m n rs).1, x.2.2.2.1.length ≤ 64 ∧ x.2.2.2.2.length ≤ 24 := by
  unfold roomsRead
  split
  · exact ⟨(readRoom_len d sl b m n rs).1, readRoom_short d sl b m n rs⟩
  · exact ⟨Nat.zero_le _, fun x hx => by simp at hx⟩
/-- Two lists of rooms that own the same are found equal. -/
theorem rooms_same {B C : Nat} {v v' : Value} {l : List Room} {w : World} (hl : l.length ≤ 16) (hs : ∀ x ∈ l, x.2.2.2.1.length ≤ 64 ∧ x.2.2.2.2.length ≤ 24) (h1 : RoomsOwn B w v l) (h2 : RoomsOwn C w v' l) :
    Calls Tryz.prog 8 #[v, v'] w fun e w' => e = .returned (.bool true) ∧ Below w.heap.size w w' := by
  obtain ⟨A, c, rfl⟩ := h1.form
  obtain ⟨A', c', rfl⟩ := h2.form
  exact r7SameRooms_walk A A' l c c' w (by omega) (fun x hx => by have := hs x hx; omega) h1.any' h2.any'
set_option maxHeartbeats 8000000 in
theorem reads7_walk (A : Option Addr) (rs : List Rec) (cap : Nat) (d sl b m n : Int) (w : World) (hS : Std w) (hW : Wds w) (hD : Dys w) (hR : RecsAt w.heap.size w A rs) (hN : rs.length ≤ 1048576) (hs : ∀ r ∈ rs, ∀ f ∈ r.2, f.1.size < 1073741824) :
    Calls Tryz.prog 3 #[.slice A rs.length cap, .agg #[.int .i64 d, .int .i64 sl, .int .i64 b, .int .i64 m], .int .i64 n] w fun e w' => e = .returned (.bool true) ∧ Below w.heap.size w w' := by
  have hb0 : Below w.heap.size w (w.alloc (.cells #[.int .i64 d, .int .i64 sl, .int .i64 b, .int .i64 m] 24)) := (by repeat (first | exact Below.refl _ _ | refine ext_alloc ?_ _ | refine ext_drewN ?_ _ | refine ext_drew ?_ | refine ext_trans ?_ (by assumption)))
  have bG := Box4.new w 24 (.int .i64 d) (.int .i64 sl) (.int .i64 b) (.int .i64 m)
  obtain ⟨gb, hgb⟩ : ∃ gb, w.heap.size = gb := ⟨_, rfl⟩
  obtain ⟨W, hWW⟩ : ∃ W, w.alloc (.cells #[.int .i64 d, .int .i64 sl, .int .i64 b, .int .i64 m] 24) = W := ⟨_, rfl⟩
  have hR0 := (hR.below hb0).more hb0.size
  have hS0 := hS.after hb0
  have hW0 := hW.after hb0 hS
  have hD0 := hD.after hb0 hS
  rw [hWW] at hb0 bG hR0 hS0 hW0 hD0
  rw [hgb] at bG
  have hgl := bG.lt
  obtain ⟨g0, g1, g2, g3⟩ := bG
  clear hR hS hW hD
  obtain ⟨N, hNN⟩ : ∃ N, rs.length = N := ⟨_, rfl⟩
  rw [hNN] at hN ⊢
  replace hNN := hide hNN
  replace hs := hide hs
  replace hgb := hide hgb
  replace hWW := hide hWW
  go_enter Tryz.func3, Tryz.ntmps3
  go_wp2_with fail
  rw [hWW.out, hgb.out]
  go_loopw [7] (fun i wr => ∃ j : Nat, j ≤ N ∧ i = .int .i64 j ∧ wr = W) (fun i _ => N - (intOf i).toNat)
  case atStart => exact ⟨0, Nat.zero_le _, rfl, rfl⟩
  case round =>
    obtain ⟨j, hj, rfl, rfl⟩ := hrel
    by_cases hlt : j < N
    · obtain ⟨rb, off, F, c, rfl, hrb, q0, q1⟩ := recs_len7 hR0 j (by rw [hNN.out]; exact hlt)
      obtain ⟨k, hk⟩ : ∃ k, (rs.getD j (0, [])).2.length = k := ⟨_, rfl⟩
      rw [hk] at q1
      have hj0 : (0 : Int) ≤ (j : Int) := by omega
      have hj1 : (j : Int) < (N : Int) := by omega
      clear hk hR0 g0 g1 g2 g3
      by_cases h20 : 20 < k
      · go_wp2_with fail
        refine (awake07_walk _ hS0).mono ?_
        rintro e w1 ⟨rfl, hb1⟩
        go_wp2
        go_ret
        exact ⟨rfl, ext_trans hb0 hb1⟩
      · go_wp2
        go_roundw
        case rel => exact ⟨j + 1, by omega, by go_num, by first | rfl | trivial⟩
        case measure => simp [intOf]; omega
    · obtain rfl : j = N := by omega
      have hread := rfread_walk d sl b m n A rs cap
      have hread2 := r7Read_walk d sl b m n A rs cap
      rw [hNN.out] at hread hread2
      replace hread := hide (fun W hS hR => hread W hS hR (by omega) hs.out)
      replace hread2 := hide (fun W hS hW hD hR => hread2 W hS hW hD hR (by omega) hs.out)
      clear hs
      go_wp2_with fail
      refine (hread.out _ hS0 hR0).mono ?_
      rintro e w1 ⟨va, vp, rfl, hLa, hPa, hb1⟩
      have hR1 := (hR0.below hb1).more hb1.size
      have hS1 := hS0.after hb1
      have hW1 := hW0.after hb1 hS0
      have hD1 := hD0.after hb1 hS0
      replace g0 := cell_later hb1 g0
      replace g1 := cell_later hb1 g1
      replace g2 := cell_later hb1 g2
      replace g3 := cell_later hb1 g3
      replace hb0 := ext_trans hb0 hb1
      have hgl1 : gb < w1.heap.size := by have := hb1.size; omega
      clear hread hR0 hS0 hW0 hD0 hb1 hWW hgl
      go_wp2_with fail
      refine (hread2.out _ hS1 hW1 hD1 hR1).mono ?_
      rintro e w2 ⟨vb, vq, rfl, hLb, hPb, hb2⟩
      have hLa2 := hLa.later hb2
      have hPa2 := owns_later hPa hb2
      have hS2 := hS1.after hb2
      replace hb0 := ext_trans hb0 hb2
      clear hread2 hR1 hS1 hW1 hD1 hLa hPa g0 g1 g2 g3 hb2
      go_wp2_with fail
      refine (awake07_walk w2 hS2).mono ?_
      rintro e w3 ⟨rfl, hb3⟩
      replace hb0 := ext_trans hb0 hb3
      have hrs := roomsRead_short d sl b m n rs
      have hsame := rooms_same hrs.1 hrs.2 (hLa2.later hb3) (hLb.later hb3)
      clear hrs
      have hPa3 := owns_later hPa2 hb3
      have hPb3 := owns_later hPb hb3
      clear hLa2 hLb hPa2 hPb hS2 hb3
      go_wp2_with fail
      refine hsame.mono ?_
      rintro e w4 ⟨rfl, hb4⟩
      have hsp := probs_same _ _ vp vq _ w4 (owns_later hPa3 hb4) (owns_later hPb3 hb4)
      replace hb0 := ext_trans hb0 hb4
      clear hsame hPa3 hPb3 hb4
      go_wp2_with fail
      refine hsp.mono ?_
      rintro e w5 ⟨rfl, hb5⟩
      clear hsp
      go_wp2
      go_ret
      exact ⟨rfl, ext_trans hb0 hb5⟩
end Go.Proofs.YtnbcaklnpflihaaGreatDoor

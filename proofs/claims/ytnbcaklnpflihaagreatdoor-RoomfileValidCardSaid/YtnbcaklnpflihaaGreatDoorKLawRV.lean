/- Walk of the closure of roomfile.Lines: one room is read. Conditions: the scanner's cells are as Scan says; texts shorter than 2^30 bytes. Walk of fields.Read at rooms. Conditions: texts shorter than 2^30 bytes; what the program's variables hold. Walks of roomfile.Lines and roomfile.Read. Conditions: texts shorter than 2^30 bytes; what the program's variables hold. Walk of roomfile.Open; what the first record of law 07 reads as. Conditions: the times' cells. The check at the head of law 07. Condition: the program's variables hold what Std says. The statement RoomfileValid: its walk. Conditions: the rooms' cells; what the program's variables hold. -/
import Derived.Test.YtnbcaklnpflihaaGreatDoorKROneP
import Derived.Test.YtnbcaklnpflihaaGreatDoorKRHas
import Derived.Test.YtnbcaklnpflihaaGreatDoorKSorted
import Derived.Test.YtnbcaklnpflihaaGreatDoorKStaffB
import Derived.Test.YtnbcaklnpflihaaGreatDoorKListC
import Derived.Test.YtnbcaklnpflihaaGreatDoorKGath
import Derived.Test.YtnbcaklnpflihaaGreatDoorKWriteT
import Derived.Test.YtnbcaklnpflihaaGreatDoorKSameL
namespace Go.Proofs.YtnbcaklnpflihaaGreatDoor
open Go.RowKit
set_option maxRecDepth 100000

theorem listF_len64 : ∀ (ps out : List ByteArray), out.length ≤ 64 → (listF out ps).2.length ≤ 64
  | [], out, h => by
    rw [listF]
    split
    · exact h
    · exact Nat.zero_le _
  | p :: ps, out, h => by
    by_cases h1 : (partV p (64 - out.length)).1 ≠ 0
    · rw [listF_err h1]; exact Nat.zero_le _
    · obtain ⟨more, hm⟩ : ∃ more, partV p (64 - out.length) = (0, more) := ⟨_, Prod.ext (by omega) rfl⟩
      rw [listF_ok hm]
      by_cases h2 : 64 < (out ++ more).length
      · rw [if_pos h2]; exact Nat.zero_le _
      · rw [if_neg h2]; exact listF_len64 ps _ (by omega)
theorem listV_len64 (s : ByteArray) : (listV s).2.length ≤ 64 := by
  unfold listV
  split
  · exact Nat.zero_le _
  · exact listF_len64 _ _ (Nat.zero_le _)
theorem times_noting {g B : Nat} {w w' : World} {v : Value} {ts : List T4} (h : TimesOwn B w v ts) (ho : Only g w w') (hg : g < B) : TimesOwn B w' v ts :=
  World.ownsRow.kept h ho (by
    cases hv : v.ownBlock with
    | none => exact .inl rfl
    | some y => exact .inr fun e => by injection e with e; have := (World.ownsRow.lt h y hv).1; omega)
theorem times_later {B : Nat} {w w' : World} {v : Value} {ts : List T4} (h : TimesOwn B w v ts) (hb : Below w.heap.size w w') : TimesOwn B w' v ts :=
  World.ownsRow.kept h (only_of_below hb w.heap.size) (by
    cases hv : v.ownBlock with
    | none => exact .inl rfl
    | some y => exact .inr fun e => by have := (World.ownsRow.lt h y hv).2; injection e with e; omega)
def set5 (w : World) (r : Nat) (a b c d e : Value) : World := ((((w.setCell ⟨r, 0, none⟩ a).setCell ⟨r, 1, none⟩ b).setCell ⟨r, 2, none⟩ c).setCell ⟨r, 3, none⟩ d).setCell ⟨r, 4, none⟩ e
theorem set5_cells {w : World} {r : Nat} {a b c d e a' b' c' d' e' : Value} (h0 : w.cell? ⟨r, 0, none⟩ = some a') (h1 : w.cell? ⟨r, 1, none⟩ = some b') (h2 : w.cell? ⟨r, 2, none⟩ = some c') (h3 : w.cell? ⟨r, 3, none⟩ = some d') (h4 : w.cell? ⟨r, 4, none⟩ = some e') :
    (set5 w r a b c d e).cell? ⟨r, 0, none⟩ = some a ∧ (set5 w r a b c d e).cell? ⟨r, 1, none⟩ = some b ∧ (set5 w r a b c d e).cell? ⟨r, 2, none⟩ = some c ∧ (set5 w r a b c d e).cell? ⟨r, 3, none⟩ = some d ∧ (set5 w r a b c d e).cell? ⟨r, 4, none⟩ = some e := by
  have o : ∀ (W : World) (i j : Nat) (u : Value), i ≠ j → (W.setCell ⟨r, i, none⟩ u).cell? ⟨r, j, none⟩ = W.cell? ⟨r, j, none⟩ := fun W i j u h => World.cell?_setCell_other _ _ _ _ (by intro e; injection e with e1 e2; first | exact h e2 | exact h e2.symm)
  unfold set5
  refine ⟨?_, ?_, ?_, ?_, ?_⟩
  · rw [o _ _ _ _ (by decide), o _ _ _ _ (by decide), o _ _ _ _ (by decide), o _ _ _ _ (by decide)]; exact World.cell?_setCell_same _ _ _ h0
  · rw [o _ _ _ _ (by decide), o _ _ _ _ (by decide), o _ _ _ _ (by decide)]; exact World.cell?_setCell_same _ _ _ ((o _ _ _ _ (by decide)).trans h1)
  · rw [o _ _ _ _ (by decide), o _ _ _ _ (by decide)]; exact World.cell?_setCell_same _ _ _ ((o _ _ _ _ (by decide)).trans ((o _ _ _ _ (by decide)).trans h2))
  · rw [o _ _ _ _ (by decide)]; exact World.cell?_setCell_same _ _ _ ((o _ _ _ _ (by decide)).trans ((o _ _ _ _ (by decide)).trans ((o _ _ _ _ (by decide)).trans h3)))
  · exact World.cell?_setCell_same _ _ _ ((o _ _ _ _ (by decide)).trans ((o _ _ _ _ (by decide)).trans ((o _ _ _ _ (by decide)).trans ((o _ _ _ _ (by decide)).trans h4))))
theorem set5_scan {w : World} {g r : Nat} {line : Int} {F : Option Addr} {m c k : Nat} {pr : Option Prob} {z z' : ByteArray} {b2 c2 d2 e2 : Value} (h : Scan w g line F m c k pr) (h0 : w.cell? ⟨r, 0, none⟩ = some (.string z')) (hne : r ≠ g) : Scan (set5 w r (.string z) b2 c2 d2 e2) g line F m c k pr := by
  have o : ∀ (W : World) (i j : Nat) (u : Value), i ≠ j → (W.setCell ⟨r, i, none⟩ u).cell? ⟨r, j, none⟩ = W.cell? ⟨r, j, none⟩ := fun W i j u h => World.cell?_setCell_other _ _ _ _ (by intro e; injection e with e1 e2; first | exact h e2 | exact h e2.symm)
  have s0 : (w.setCell ⟨r, 0, none⟩ (.string z)).cell? ⟨r, 0, none⟩ = some (.string z) := World.cell?_setCell_same _ _ _ h0
  unfold set5
  exact scan_set (scan_set (scan_set (scan_set (scan_set h h0 hne) s0 hne) ((o _ _ _ _ (by decide)).trans s0) hne) ((o _ _ _ _ (by decide)).trans ((o _ _ _ _ (by decide)).trans s0)) hne) ((o _ _ _ _ (by decide)).trans ((o _ _ _ _ (by decide)).trans ((o _ _ _ _ (by decide)).trans s0))) hne
theorem set5_only {a w : World} {g r : Nat} {b1 b2 c2 d2 e2 : Value} (h : Only g a w) (hp : r = g ∨ a.heap.size ≤ r) : Only g a (set5 w r b1 b2 c2 d2 e2) :=
  only_setCell (only_setCell (only_setCell (only_setCell (only_setCell h hp _) hp _) hp _) hp _) hp _
def RoomGives (d sl b m n : Int) (g : Nat) (line : Int) (F : Option Addr) (fs : List Fld) (c : Nat) (ls : List Room) (w : World) (e : Ending) (w' : World) : Prop :=
  ∃ (t0 t1 : ByteArray) (nn : Nat) (l : List ByteArray) (ts : List T4) (v3 v4 : Value) (k : Nat), e = .returned (.agg #[.string t0, .string t1, .int .i64 (nn : Int), v3, v4]) ∧ Own kStr 9 [] 0 w.heap.size w' v3 (ascS l) ∧ TimesOwn w.heap.size w' v4 ts ∧ Scan w' g line F fs.length c k (roomP d sl b m n line fs ls) ∧ (roomP d sl b m n line fs ls = none → (t0, t1, (nn : Int), ascS l, ts) = roomOf d sl b m n fs) ∧ Only g w w'
set_option maxHeartbeats 8000000 in
theorem rone_walk (B gb nb g : Nat) (d sl b m n line : Int) (F : Option Addr) (fs : List Fld) (c : Nat) (A : Option Addr) (ls : List Room) (cr : Nat) (w : World) (hS : Std w) (hCl : Cl gb nb d sl b m n w) (hgb : gb ≠ g) (hnb : nb ≠ g)
    (hsc : Scan w g line F fs.length c 0 none) (hF : FieldsAt B w F fs) (hl : fs.length = 5) (hB : B ≤ g) (hN : 10 ≤ B) (hsz : ∀ k, (textAt fs k).size < 1073741824) (hq : ls.length ≤ 1000000000) (hw : At kRoom (· < g) w A ls) :
    Calls Tryz.prog 39 #[.pointer (some ⟨g, 0, none⟩), .slice A ls.length cr, .pointer (some ⟨gb, 0, none⟩), .pointer (some ⟨nb, 0, none⟩)] w fun e w' => RoomGives d sl b m n g line F fs c ls w e w' := by
  have hgl := hsc.lt
  go_enter Tryz.func39, Tryz.ntmps39
  go_wp2_with fail
  have hb0 : Below w.heap.size w (w.alloc (.cells #[.string ⟨#[]⟩, .string ⟨#[]⟩, .int .i64 0, .slice none 0 0, .slice none 0 0] 47)) := ext_alloc (Below.refl _ _) _
  have hr5 := five_new w ⟨⟨#[]⟩, ⟨#[]⟩, 0, none, 0, 0, none, 0, 0⟩ 47
  have f0 : ∀ j, (w.alloc (.cells #[.string ⟨#[]⟩, .string ⟨#[]⟩, .int .i64 0, .slice none 0 0, .slice none 0 0] 47)).frozen? ⟨w.heap.size, j, none⟩ = false := fun j => by simp
  have hS0 := hS.after hb0
  have hsc0 := hsc.later hb0
  have hCl0 := hCl.later hb0
  have how := Only.later (Only.refl g w) hb0
  have hF0 := hF.below (hb0.mono (by omega) : Below B _ _)
  have hw0 := hw.below (hb0.mono (by omega) : Below g _ _)
  have hz0 : (w.alloc (.cells #[.string ⟨#[]⟩, .string ⟨#[]⟩, .int .i64 0, .slice none 0 0, .slice none 0 0] 47)).heap.size = w.heap.size + 1 := World.size_alloc _ _
  obtain ⟨W0, hW0⟩ : ∃ W0, w.alloc (.cells #[.string ⟨#[]⟩, .string ⟨#[]⟩, .int .i64 0, .slice none 0 0, .slice none 0 0] 47) = W0 := ⟨_, rfl⟩
  rw [hW0] at f0 hS0 hsc0 hCl0 how hF0 hw0 hz0 ⊢
  have hr5' : FiveAt W0 w.heap.size 0 ⟨⟨#[]⟩, ⟨#[]⟩, 0, none, 0, 0, none, 0, 0⟩ := hW0 ▸ hr5
  clear hr5
  obtain ⟨r, hr⟩ : ∃ r, w.heap.size = r := ⟨_, rfl⟩
  rw [hr] at hr5' f0 hz0 hgl ⊢
  have hrg : r ≠ g := by omega
  have hrl : r < W0.heap.size := by omega
  have hgW : g < W0.heap.size := by omega
  replace hW0 := hide hW0
  replace hr := hide hr
  replace hr5' := hide hr5'
  replace f0 := hide f0
  clear hsc hF hw hb0 hS hCl
  refine (code_any B g line F fs c 0 none W0 hsc0 hF0 (by omega) (by omega) hB (fun p hp => by cases hp)).mono ?_
  rintro e w1 ⟨k1, t0, pr1, rfl, hs1, ho1, i1, j1, a1, -⟩
  replace a1 := hide (a1 rfl)
  go_wp2_with fail
  refine (code_any B g line F fs c k1 pr1 w1 hs1 (hF0.only ho1 hB (by omega)) (by omega) (by omega) hB (fun _ _ => i1)).mono ?_
  rintro e w2 ⟨k2, t1, pr2, rfl, hs2, ho2, i2, j2, b1, b2⟩
  replace b1 := hide b1
  replace b2 := hide b2
  replace ho2 : Only g W0 w2 := ho1.trans ho2
  clear hs1 hsc0 ho1
  go_wp2_with fail
  refine (num_anyS B g line F fs c k2 4 pr2 w2 hs2 (hF0.only ho2 hB (by omega)) (by omega) (by omega) hB (fun _ _ => i2) (by decide) (by have := hsz k2; omega)).mono ?_
  rintro e w3 ⟨k3, nn, pr3, rfl, hs3, ho3, i3, j3, c1, c2⟩
  replace c1 := hide c1
  replace c2 := hide c2
  replace ho3 : Only g W0 w3 := ho2.trans ho3
  have hz3 := ho3.size
  clear hs2 ho2
  go_wp2_with fail
  have hx5 := five_new w3 ⟨t0, t1, (nn : Int), none, 0, 0, none, 0, 0⟩ 47
  have hb4 : Below w3.heap.size w3 (w3.alloc (.cells #[.string t0, .string t1, .int .i64 (nn : Int), .slice none 0 0, .slice none 0 0] 47)) := ext_alloc (Below.refl _ _) _
  have xf : ∀ j, (w3.alloc (.cells #[.string t0, .string t1, .int .i64 (nn : Int), .slice none 0 0, .slice none 0 0] 47)).frozen? ⟨w3.heap.size, j, none⟩ = false := fun j => by simp
  have hz4 : (w3.alloc (.cells #[.string t0, .string t1, .int .i64 (nn : Int), .slice none 0 0, .slice none 0 0] 47)).heap.size = w3.heap.size + 1 := World.size_alloc _ _
  have hs4 := hs3.later hb4
  have ho4 : Only g W0 _ := Only.later ho3 hb4
  obtain ⟨x, hx⟩ : ∃ x, w3.heap.size = x := ⟨_, rfl⟩
  obtain ⟨W4, hW4⟩ : ∃ W4, w3.alloc (.cells #[.string t0, .string t1, .int .i64 (nn : Int), .slice none 0 0, .slice none 0 0] 47) = W4 := ⟨_, rfl⟩
  have hx5' : FiveAt W4 w3.heap.size 0 ⟨t0, t1, (nn : Int), none, 0, 0, none, 0, 0⟩ := hW4 ▸ hx5
  clear hx5
  rw [hW4] at hs4 ho4 hz4 xf ⊢
  rw [hx] at hx5' hz4 xf ⊢
  obtain ⟨x0, x1, x2, x3, x4⟩ := hx5'
  simp only [Nat.zero_add] at x0 x1 x2 x3 x4
  have hxg : x ≠ g := by omega
  have hx4 : x < W4.heap.size := by omega
  have hWx : W0.heap.size ≤ x := by omega
  clear hs3 hb4 ho3 hW4 hx
  refine (list_any B g line F fs c k3 8 pr3 W4 (ho4.std hS0 (by omega)) hs4 (hF0.only ho4 hB (by omega)) (by omega) (by omega) hB hN (fun _ _ => i3) (hsz k3)).mono ?_
  rintro e w5 ⟨k4, l, v, pr4, rfl, hown, hs5, ho5, i4, j4, d1, d2⟩
  have hl64 : l.length ≤ 64 := by
    cases hp : pr3 with
    | none => rw [(d1 hp).2.1]; exact listV_len64 _
    | some p => rw [(d2 p hp).2]; exact Nat.zero_le _
  replace d1 := hide d1
  replace d2 := hide d2
  have hz5 := ho5.size
  have y0 := (ho5.cell hx4 hxg).trans x0
  have y1 := (ho5.cell hx4 hxg).trans x1
  have y2 := (ho5.cell hx4 hxg).trans x2
  have y3 := (ho5.cell hx4 hxg).trans x3
  have y4 := (ho5.cell hx4 hxg).trans x4
  have yf : ∀ j, w5.frozen? ⟨x, j, none⟩ = false := fun j => (ho5.frozen hx4 hxg).trans (xf j)
  replace ho5 : Only g W0 w5 := ho4.trans ho5
  obtain ⟨A6, c6, rfl, -, hat6⟩ := hown.any
  have hsort := fsorted_walk A6 l c6 w5 (by omega) hat6.any
  obtain ⟨L, hL⟩ : ∃ L, l.length = L := ⟨_, rfl⟩
  rw [hL] at hsort ⊢
  replace hL := hide hL
  have hx5 : x < w5.heap.size := by omega
  clear x0 x1 x2 x3 x4 xf hs4 ho4 hown hat6
  go_wp2_with fail
  refine hsort.mono ?_
  rintro e w6 ⟨v6, rfl, hown6, hb6⟩
  obtain ⟨A7, c7, rfl⟩ := hown6.form
  have z0 := cell_later hb6 y0
  have z1 := cell_later hb6 y1
  have z2 := cell_later hb6 y2
  have z3 := cell_later hb6 y3
  have z4 := cell_later hb6 y4
  have zf : ∀ j, w6.frozen? ⟨x, j, none⟩ = false := fun j => (Only.frozen (g := g) (only_of_below hb6 _) hx5 hxg).trans (yf j)
  have hs6 := hs5.later hb6
  have ho6 : Only g W0 w6 := Only.later ho5 hb6
  have hz6 := hb6.size
  have hx6 : x < w6.heap.size := by omega
  obtain ⟨M, hM⟩ : ∃ M, (ascS l).length = M := ⟨_, rfl⟩
  rw [hM]
  have zf3 := zf 3
  clear y0 y1 y2 y3 y4 yf hs5 ho5 hb6 hsort
  have q0 : (w6.setCell ⟨x, 3, none⟩ (.slice A7 M c7)).cell? ⟨x, 0, none⟩ = some (.string t0) := (World.cell?_setCell_other _ _ _ _ (by simp)).trans z0
  have q1 : (w6.setCell ⟨x, 3, none⟩ (.slice A7 M c7)).cell? ⟨x, 1, none⟩ = some (.string t1) := (World.cell?_setCell_other _ _ _ _ (by simp)).trans z1
  have q2 : (w6.setCell ⟨x, 3, none⟩ (.slice A7 M c7)).cell? ⟨x, 2, none⟩ = some (.int .i64 (nn : Int)) := (World.cell?_setCell_other _ _ _ _ (by simp)).trans z2
  have q3 : (w6.setCell ⟨x, 3, none⟩ (.slice A7 M c7)).cell? ⟨x, 3, none⟩ = some (.slice A7 M c7) := World.cell?_setCell_same _ _ _ z3
  have q4 : (w6.setCell ⟨x, 3, none⟩ (.slice A7 M c7)).cell? ⟨x, 4, none⟩ = some (.slice none 0 0) := (World.cell?_setCell_other _ _ _ _ (by simp)).trans z4
  have hs7 := scan_set (j := 3) (u := .slice A7 M c7) hs6 z0 hxg
  have ho7 : Only g W0 (w6.setCell ⟨x, 3, none⟩ (.slice A7 M c7)) := only_setCell ho6 (Or.inr hWx) _
  have hxo : Only x w6 (w6.setCell ⟨x, 3, none⟩ (.slice A7 M c7)) := only_setCell (Only.refl x w6) (p := ⟨x, 3, none⟩) (Or.inl rfl) (.slice A7 M c7)
  have hown7 := hown6.noting hxo hx5
  rw [hM] at hown7
  have qf : (w6.setCell ⟨x, 3, none⟩ (.slice A7 M c7)).frozen? ⟨x, 4, none⟩ = false := by
    have := zf 4
    simpa using this
  replace hM := hide hM
  go_upto_region 3 with fail
  have hz7 : (w6.setCell ⟨x, 3, none⟩ (.slice A7 M c7)).heap.size = w6.heap.size := (World.size_setCell _ _ _)
  obtain ⟨W7, hW7⟩ : ∃ W7, w6.setCell ⟨x, 3, none⟩ (.slice A7 M c7) = W7 := ⟨_, rfl⟩
  rw [hW7] at q0 q1 q2 q3 q4 hs7 ho7 hown7 qf hz7 ⊢
  have hx7 : x < W7.heap.size := by omega
  obtain ⟨gg0, gg1, gg2, gg3, nn0⟩ := hCl0.only ho7 hgb hnb
  have hgb7 : gb < W7.heap.size := World.block_lt_of_cell? _ _ gg0
  have hnb7 : nb < W7.heap.size := World.block_lt_of_cell? _ _ nn0
  clear z0 z1 z2 z3 z4 zf zf3 hs6 ho6 hown6 hxo hW7
  go_wp2_with fail
  refine (times_any B g line F fs c k4 pr4 d sl b m n W7 (ho7.std hS0 (by omega)) hs7 (hF0.only ho7 hB (by omega)) (by omega) (by omega) hB (by omega) (hsz k4)).mono ?_
  rintro e w8 ⟨k5, ts, v5, pr5, rfl, ht8, hs8, ho8, j5, e1, e2⟩
  replace e1 := hide e1
  replace e2 := hide e2
  have y0 := (ho8.cell hx7 hxg).trans q0
  have y1 := (ho8.cell hx7 hxg).trans q1
  have y2 := (ho8.cell hx7 hxg).trans q2
  have y3 := (ho8.cell hx7 hxg).trans q3
  have y4 := (ho8.cell hx7 hxg).trans q4
  have yf : w8.frozen? ⟨x, 4, none⟩ = false := (ho8.frozen hx7 hxg).trans qf
  have hz8 := ho8.size
  have hx8 : x < w8.heap.size := by omega
  have hown8 := hown7.noting ho8 (by omega)
  have hoo8 : Only g W0 w8 := ho7.trans ho8
  obtain ⟨A9, c9, rfl⟩ := owns_form ht8
  obtain ⟨T, hT⟩ : ∃ T, ts.length = T := ⟨_, rfl⟩
  rw [hT]
  have p0 : (w8.setCell ⟨x, 4, none⟩ (.slice A9 T c9)).cell? ⟨x, 0, none⟩ = some (.string t0) := (World.cell?_setCell_other _ _ _ _ (by simp)).trans y0
  have p1 : (w8.setCell ⟨x, 4, none⟩ (.slice A9 T c9)).cell? ⟨x, 1, none⟩ = some (.string t1) := (World.cell?_setCell_other _ _ _ _ (by simp)).trans y1
  have p2 : (w8.setCell ⟨x, 4, none⟩ (.slice A9 T c9)).cell? ⟨x, 2, none⟩ = some (.int .i64 (nn : Int)) := (World.cell?_setCell_other _ _ _ _ (by simp)).trans y2
  have p3 : (w8.setCell ⟨x, 4, none⟩ (.slice A9 T c9)).cell? ⟨x, 3, none⟩ = some (.slice A7 M c7) := (World.cell?_setCell_other _ _ _ _ (by simp)).trans y3
  have p4 : (w8.setCell ⟨x, 4, none⟩ (.slice A9 T c9)).cell? ⟨x, 4, none⟩ = some (.slice A9 T c9) := World.cell?_setCell_same _ _ _ y4
  have hs9 := scan_set (j := 4) (u := .slice A9 T c9) hs8 y0 hxg
  have ho9 : Only g W0 (w8.setCell ⟨x, 4, none⟩ (.slice A9 T c9)) := only_setCell hoo8 (Or.inr hWx) _
  have hxo : Only x w8 (w8.setCell ⟨x, 4, none⟩ (.slice A9 T c9)) := only_setCell (Only.refl x w8) (p := ⟨x, 4, none⟩) (Or.inl rfl) (.slice A9 T c9)
  have hown9 := hown8.noting hxo hx5
  rw [hT] at ht8
  have ht9 := times_noting ht8 hxo hx7
  replace hT := hide hT
  have hw9 := hw0.below (ho9.below (Nat.le_refl _) (by omega))
  go_upto_region 4 with fail
  have hz9 : (w8.setCell ⟨x, 4, none⟩ (.slice A9 T c9)).heap.size = w8.heap.size := (World.size_setCell _ _ _)
  obtain ⟨W9, hW9⟩ : ∃ W9, w8.setCell ⟨x, 4, none⟩ (.slice A9 T c9) = W9 := ⟨_, rfl⟩
  rw [hW9] at p0 p1 p2 p3 p4 hs9 ho9 hown9 ht9 hw9 hz9 ⊢
  clear y0 y1 y2 y3 y4 yf hs8 ho8 hoo8 hxo hown8 ht8 hW9 q0 q1 q2 q3 q4 hs7 ho7 hown7 qf gg0 gg1 gg2 gg3 nn0
  have hx9 : x < W9.heap.size := by omega
  have hhas := rhas_walk A ls cr t0 x W9 (by omega) hw9.any p0
  obtain ⟨q, hqq⟩ : ∃ q, ls.length = q := ⟨_, rfl⟩
  rw [hqq] at hhas ⊢
  have key : Hid (∀ prx : Option Prob, noted pr5 (decide (0 ≤ idxS t0 (codesR ls))) (line, 0, 11) = prx → noted prx (decide (16 ≤ q)) (line, 0, 2) = roomP d sl b m n line fs ls ∧ (roomP d sl b m n line fs ls = none → (t0, t1, (nn : Int), ascS l, ts) = roomOf d sl b m n fs)) := hide fun prx h1 => by
    rw [← h1, ← hqq]
    exact room_steps a1.out b1.out b2.out c1.out c2.out d1.out d2.out e1.out e2.out
  rw [hqq] at hq
  clear hw9 a1 b1 b2 c1 c2 d1 d2 e1 e2 hw0
  replace hqq := hide hqq
  go_wp2_with fail
  refine hhas.mono ?_
  rintro e w10 ⟨rfl, hb10⟩
  replace p0 := cell_later hb10 p0
  replace p1 := cell_later hb10 p1
  replace p2 := cell_later hb10 p2
  replace p3 := cell_later hb10 p3
  replace p4 := cell_later hb10 p4
  have hs10 := hs9.later hb10
  have ho10 : Only g W0 w10 := Only.later ho9 hb10
  have hown10 := hown9.later hb10
  have ht10 := times_later ht9 hb10
  have hz10 := hb10.size
  have hx10 : x < w10.heap.size := by omega
  clear hs9 ho9 hown9 ht9 hb10 hhas
  go_wp2_with fail
  refine (whole_walk g line F fs.length c k5 pr5 _ 11 w10 hs10).mono ?_
  rintro e w11 ⟨rfl, hs11, ho11⟩
  replace p0 := (ho11.cell hx10 hxg).trans p0
  replace p1 := (ho11.cell hx10 hxg).trans p1
  replace p2 := (ho11.cell hx10 hxg).trans p2
  replace p3 := (ho11.cell hx10 hxg).trans p3
  replace p4 := (ho11.cell hx10 hxg).trans p4
  have hown11 := hown10.noting ho11 (by omega)
  have ht11 := times_noting ht10 ho11 (by omega)
  have hoo11 : Only g W0 w11 := ho10.trans ho11
  have hz11 := ho11.size
  have hx11 : x < w11.heap.size := by omega
  obtain ⟨prx, hprx⟩ : ∃ prx, noted pr5 (decide (0 ≤ idxS t0 (codesR ls))) (line, 0, 11) = prx := ⟨_, rfl⟩
  rw [hprx] at hs11
  have hkey := hide (key.out prx hprx)
  clear hs10 ho10 hown10 ht10 ho11 key hprx
  go_wp2_with fail
  refine (whole_walk g line F fs.length c k5 prx _ 2 w11 hs11).mono ?_
  rintro e w12 ⟨rfl, hs12, ho12⟩
  replace p0 := (ho12.cell hx11 hxg).trans p0
  replace p1 := (ho12.cell hx11 hxg).trans p1
  replace p2 := (ho12.cell hx11 hxg).trans p2
  replace p3 := (ho12.cell hx11 hxg).trans p3
  replace p4 := (ho12.cell hx11 hxg).trans p4
  have hown12 := hown11.noting ho12 (by omega)
  have ht12 := times_noting ht11 ho12 (by omega)
  have hoo12 : Only g W0 w12 := hoo11.trans ho12
  rw [show decide ((q : Int) ≥ 16) = decide (16 ≤ q) from decide_eq_decide.2 (by omega), hkey.out.1] at hs12
  have hfin := hide hkey.out.2
  obtain ⟨s0, s1, s2, s3, s4⟩ := hr5'.out
  simp only [Nat.zero_add] at s0 s1 s2 s3 s4
  replace s0 := (hoo12.cell hrl hrg).trans s0
  replace s1 := (hoo12.cell hrl hrg).trans s1
  replace s2 := (hoo12.cell hrl hrg).trans s2
  replace s3 := (hoo12.cell hrl hrg).trans s3
  replace s4 := (hoo12.cell hrl hrg).trans s4
  have g0 := (hoo12.frozen hrl hrg).trans (f0.out 0)
  have g1 := (hoo12.frozen hrl hrg).trans (f0.out 1)
  have g2 := (hoo12.frozen hrl hrg).trans (f0.out 2)
  have g3 := (hoo12.frozen hrl hrg).trans (f0.out 3)
  have g4 := (hoo12.frozen hrl hrg).trans (f0.out 4)
  replace hs12 := hide hs12
  replace hoo12 := hide hoo12
  clear hs11 hoo11 hown11 ht11 ho12 hkey
  go_wp2
  obtain ⟨d0, d1, d2, d3, d4⟩ := set5_cells (a := .string t0) (b := .string t1) (c := .int .i64 (nn : Int)) (d := .slice A7 M c7) (e := .slice A9 T c9) s0 s1 s2 s3 s4
  have hro : Only r w12 (set5 w12 r (.string t0) (.string t1) (.int .i64 (nn : Int)) (.slice A7 M c7) (.slice A9 T c9)) := set5_only (Only.refl r w12) (Or.inl rfl)
  have hbz : w.heap.size = r := hr.out
  refine end_room rfl r (.string t0) (.string t1) (.int .i64 (nn : Int)) (.slice A7 M c7) (.slice A9 T c9) rfl rfl d0 d1 d2 d3 d4 ⟨t0, t1, nn, l, ts, _, _, k5, rfl, ?_, ?_, set5_scan hs12.out s0 hrg, hfin.out, ?_⟩
  · exact Own.lower (hown12.noting hro (by omega)) (by omega)
  · exact owns_lower (times_noting ht12 hro (by omega)) (by omega)
  · exact set5_only (how.trans hoo12.out) (Or.inr (Nat.le_of_eq hbz))
end Go.Proofs.YtnbcaklnpflihaaGreatDoor

namespace Go.Proofs.YtnbcaklnpflihaaGreatDoor
open Go.RowKit
set_option maxRecDepth 100000

def readRoom (d sl b m n : Int) (rs : List Rec) : RG Room := readAll 5 (roomP d sl b m n) (roomOf d sl b m n) rs
theorem roomP_len {d sl b m n : Int} (line : Int) (fs : List Fld) (ls : List Room) (h : roomP d sl b m n line fs ls = none) : ls.length < 16 := by
  unfold roomP at h
  have := of_decide_eq_false (noted_none h).2
  omega
theorem readRoom_len (d sl b m n : Int) (rs : List Rec) : (readRoom d sl b m n rs).ls.length ≤ 16 ∧ (readRoom d sl b m n rs).lines.length = (readRoom d sl b m n rs).ls.length ∧ (readRoom d sl b m n rs).ps.length ≤ rs.length := readAll_len roomP_len rs
theorem apart_room : TyApart 47 [9, 50] := ⟨by decide, by decide, by decide, by decide, by decide, by decide, by decide⟩
theorem apd_room : Apd Tryz.prog 29 47 5 88 := apd Tryz.underlying29 (z := .agg #[.string ⟨#[]⟩, .string ⟨#[]⟩, .int .i64 0, .slice none 0 0, .slice none 0 0]) (by kernel_rfl) rfl
theorem own_times {B : Nat} {w : World} {v : Value} {ts : List T4} (h : TimesOwn B w v ts) : Own kTime 50 [] 0 B w v ts :=
  ⟨ts.map encT, by simp, by rw [show (ts.map encT).flatten = ts.flatMap encT from (List.flatMap_def ..).symm]; exact h, fun j x vs hj hv => by
    rw [List.getElem?_map, hj] at hv
    cases Option.some.inj hv
    exact ⟨[_], _, rfl, rfl, [_], _, rfl, rfl, [_], [_], rfl, rfl, rfl⟩⟩
theorem own_rep2 {α : Type} {K : Kind α} {t : TypeId} {ts' : List TypeId} {B : Nat} {w : World} {v : Value} {l : List α} (h : Own K t [] 0 B w v l) (ht : t ∈ ts') : (kSlice K).rep (Ty ts' 0 B w) w l [v] := by
  obtain ⟨A, c, rfl, h1, h2⟩ := h.at
  refine ⟨A, c, rfl, h1, h2.more fun b hb => ?_⟩
  rcases hb with hb | ⟨hB, cs, t', hc, hm⟩
  · exact .inl hb
  · exact .inr ⟨hB, cs, t', hc, by simp at hm; rw [hm]; exact ht⟩
abbrev GR (w0 : World) (u6 u7 u8 : Value) (ls : List Room) (lines : List Int) (ps : List Prob) (W : World) : Prop := GG kRoom 47 [9, 50] w0 u6 u7 u8 ls lines ps W
def ReadRGives (d sl b m n : Int) (rs : List Rec) (w : World) (e : Ending) (w' : World) : Prop :=
  ∃ v6 v7 v8, e = .returned (.tuple #[v6, v7, v8]) ∧ GR w v6 v7 v8 (readRoom d sl b m n rs).ls (readRoom d sl b m n rs).lines (readRoom d sl b m n rs).ps w'
def ReadRLoop (d sl b m n : Int) (rs : List Rec) (w : World) (v6 v7 v8 i : Value) (wr : World) : Prop :=
  ∃ j : Nat, j ≤ rs.length ∧ i = .int .i64 j ∧ GR w v6 v7 v8 (readRoom d sl b m n (rs.take j)).ls (readRoom d sl b m n (rs.take j)).lines (readRoom d sl b m n (rs.take j)).ps wr
set_option maxHeartbeats 8000000 in
theorem rread_walk (gb nb : Nat) (d sl b m n : Int) (A : Option Addr) (rs : List Rec) (cap : Nat) (w : World) (hS : Std w) (hCl : Cl gb nb d sl b m n w) (hR : RecsAt w.heap.size w A rs) (hN : rs.length ≤ 4000000000000) (hs : ∀ r ∈ rs, ∀ f ∈ r.2, f.1.size < 1073741824) :
    Calls Tryz.prog 38 #[.slice A rs.length cap, .int .i64 5, .func (.func 39) #[] #[.pointer (some ⟨gb, 0, none⟩), .pointer (some ⟨nb, 0, none⟩)]] w fun e w' => ReadRGives d sl b m n rs w e w' := by
  have eg : ∀ args w, (callFunc 39 args).run Tryz.prog w = .ok (.enter 39 args) w := enters_of Tryz.func39 (by kernel_rfl) rfl
  obtain ⟨iP, hiP, hP0, hP1, hP2⟩ := info_parts infoProb
  obtain ⟨N, hNN⟩ : ∃ N, rs.length = N := ⟨_, rfl⟩
  have hbig := hS.big
  rw [hNN] at hN ⊢
  replace hNN := hide hNN
  replace hs := hide hs
  go_enter Tryz.func38, Tryz.ntmps38
  go_wp2
  go_loopw [6, 7, 8, 15] (fun v6 v7 v8 i wr => ReadRLoop d sl b m n rs w v6 v7 v8 i wr) (fun _ _ _ i _ => N - (intOf i).toNat)
  case atStart => exact ⟨0, Nat.zero_le _, rfl, Own.nil, Own.nil, World.ownsRow_nil _ _ _ _, Below.refl _ _⟩
  case round =>
    obtain ⟨j, hj, rfl, hG⟩ := hrel
    rw [hNN.out] at hj
    by_cases hlt : j < N
    · obtain ⟨r, hr⟩ : ∃ r, rs[j]? = some r := ⟨_, List.getElem?_eq_getElem (by rw [hNN.out]; exact hlt)⟩
      obtain ⟨rb, off, rfl, hrb, hcell⟩ := (hR.below hG.below) (by rw [hNN.out]; omega)
      obtain ⟨F, c, k0, k1, hF⟩ := hcell j r hr
      have hsr := hide (hs.out r (List.mem_of_getElem? hr))
      have hstep := hide (readAll_take (n := 5) (P := roomP d sl b m n) (f := roomOf d sl b m n) rs j r hr)
      obtain ⟨st, hst⟩ : ∃ st, readAll 5 (roomP d sl b m n) (roomOf d sl b m n) (rs.take j) = st := ⟨_, rfl⟩
      have hlen := readRoom_len d sl b m n (rs.take j)
      rw [List.length_take, hNN.out] at hlen
      unfold readRoom at hG hlen
      rw [hst] at hG hlen hstep
      obtain ⟨n1, n2, n3⟩ := hlen
      obtain ⟨line, fs⟩ := r
      dsimp only at k0 k1 hF hsr
      have hz := hG.below.size
      have hrb2 : rb < wr.heap.size := by omega
      have h3N : st.ps.length ≤ 4000000000000 := by omega
      have hSr := hS.after hG.below
      clear hcell hr hst hR n3
      replace n2 := hide n2
      obtain ⟨g, hg⟩ : ∃ g, wr.heap.size + 1 = g := ⟨_, rfl⟩
      have hsc0 : Scan ((wr.alloc (.cells #[.int .i64 line, .slice F fs.length c] 27)).alloc (.cells #[.int .i64 line, .slice F fs.length c, .int .i64 0, .pointer none] 108)) g line F fs.length c 0 none :=
        ⟨.pointer none, by rw [← hg]; exact heap_new2 _ _ _, rfl⟩
      have hb1 : Below wr.heap.size wr ((wr.alloc (.cells #[.int .i64 line, .slice F fs.length c] 27)).alloc (.cells #[.int .i64 line, .slice F fs.length c, .int .i64 0, .pointer none] 108)) := (by repeat (first | exact Below.refl _ _ | refine ext_alloc ?_ _ | refine ext_drewN ?_ _ | refine ext_drew ?_ | refine ext_trans ?_ (by assumption)))
      have q0 : ((wr.alloc (.cells #[.int .i64 line, .slice F fs.length c] 27)).alloc (.cells #[.int .i64 line, .slice F fs.length c, .int .i64 0, .pointer none] 108)).cell? ⟨wr.heap.size, 0, none⟩ = some (.int .i64 line) := by simp
      have hgw : wr.heap.size < g := by omega
      replace hg := hide hg
      obtain ⟨A6, c6, rfl⟩ := hG.ls.form
      have hu6 : Hid (∀ y, (Value.slice A6 st.ls.length c6).ownBlock = some y → y < wr.heap.size) := hide fun y e => (hG.ls.lt y e).2
      have hu7 : Hid (∀ y, u7.ownBlock = some y → y < wr.heap.size) := hide fun y e => (hG.ins.lt y e).2
      have hat := hG.ls.any'
      by_cases hm : fs.length = 5
      · have hm2 : ((fs.length : Int) != 5) = false := by simp; omega
        have h1s : ∀ k, (textAt fs k).size < 1073741824 := by
          intro k
          unfold textAt
          rw [List.getD_eq_getElem?_getD]
          cases hk : fs[k]? with
          | none => decide
          | some f => exact hsr.out _ (List.mem_of_getElem? hk)
        rw [show gathStep 5 (roomP d sl b m n) (roomOf d sl b m n) st (line, fs) = (match roomP d sl b m n line fs st.ls with | some p => ⟨st.ls, st.lines, st.ps ++ [p]⟩ | none => ⟨st.ls ++ [roomOf d sl b m n fs], st.lines ++ [line], st.ps⟩) from if_pos hm] at hstep
        replace hm := hide hm
        go_wp2_with fail
        rw [hg.out]
        refine (whole_walk g line F fs.length c 0 none false 9 _ hsc0).mono ?_
        rintro e w2 ⟨rfl, hs2, ho2⟩
        have hs2 : Scan w2 g line F fs.length c 0 none := hs2
        have c3 := scan_none hs2
        have hb2 : Below wr.heap.size wr w2 := hb1.trans (Only.below ho2 (by omega) hb1.size)
        have q2 := (ho2.cell (by rw [World.size_alloc, World.size_alloc]; omega) (by omega)).trans q0
        have hG2 := hG.later hb2
        have hS2 := hSr.after hb2
        have v1 : g < w2.heap.size := World.block_lt_of_cell? _ _ c3
        have v0 : wr.heap.size < w2.heap.size := World.block_lt_of_cell? _ _ q2
        have hF2 : FieldsAt w.heap.size w2 F fs := hF.below (hb2.mono hz)
        have hat2 : At kRoom (· < g) w2 A6 st.ls := (hat.below hb2).up (by omega)
        have hbx : Below w2.heap.size w2 (w2.alloc (.cells #[.string ⟨#[]⟩, .string ⟨#[]⟩, .int .i64 0, .slice none 0 0, .slice none 0 0] 47)) := ext_alloc (Below.refl _ _) _
        have hsx := hs2.later hbx
        have hFx := hF2.below (hbx.mono (by omega) : Below w.heap.size _ _)
        have hax := hat2.below (hbx.mono (by omega) : Below g _ _)
        have hcall := hide (rone_walk w.heap.size gb nb g d sl b m n line F fs c A6 st.ls c6 _ (hS2.after hbx) ((hCl.later (ext_trans hG2.below hbx))) (by have := hCl.lt.1; omega) (by have := hCl.lt.2; omega) hsx hFx hm.out (by omega) hbig h1s (by omega) hax)
        clear hsc0 hb1 q0 ho2 hG hb2 hF hat hat2 hF2 hsx hFx hax hSr hS2
        go_upto_region 9 with (go_at_fn 39; refine hcall.out.mono ?_; rintro e w3 ⟨a0, a1, nn, l9, ts, v9, v10, k, rfl, hown3, ht3, hs3, hP3, ho3⟩; obtain ⟨A9, c9, rfl⟩ := hown3.form; obtain ⟨A10, c10, rfl⟩ := owns_form ht3; have x0 : w3.cell? ⟨w2.heap.size, 0, none⟩ = some (.string ⟨#[]⟩) := (ho3.cell (by simp) (by omega)).trans (by simp); have x1 : w3.cell? ⟨w2.heap.size, 1, none⟩ = some (.string ⟨#[]⟩) := (ho3.cell (by simp) (by omega)).trans (by simp); have x2 : w3.cell? ⟨w2.heap.size, 2, none⟩ = some (.int .i64 0) := (ho3.cell (by simp) (by omega)).trans (by simp); have x3 : w3.cell? ⟨w2.heap.size, 3, none⟩ = some (.slice none 0 0) := (ho3.cell (by simp) (by omega)).trans (by simp); have x4 : w3.cell? ⟨w2.heap.size, 4, none⟩ = some (.slice none 0 0) := (ho3.cell (by simp) (by omega)).trans (by simp); have xf0 : w3.frozen? ⟨w2.heap.size, 0, none⟩ = false := (ho3.frozen (by simp) (by omega)).trans (by simp); have xf1 : w3.frozen? ⟨w2.heap.size, 1, none⟩ = false := (ho3.frozen (by simp) (by omega)).trans (by simp); have xf2 : w3.frozen? ⟨w2.heap.size, 2, none⟩ = false := (ho3.frozen (by simp) (by omega)).trans (by simp); have xf3 : w3.frozen? ⟨w2.heap.size, 3, none⟩ = false := (ho3.frozen (by simp) (by omega)).trans (by simp); have xf4 : w3.frozen? ⟨w2.heap.size, 4, none⟩ = false := (ho3.frozen (by simp) (by omega)).trans (by simp))
        obtain ⟨L9, hL9⟩ : ∃ L9, (ascS l9).length = L9 := ⟨_, rfl⟩
        obtain ⟨L10, hL10⟩ : ∃ L10, ts.length = L10 := ⟨_, rfl⟩
        rw [hL9] at hown3 ⊢
        rw [hL10] at ht3 ⊢
        obtain ⟨fl, hfl⟩ : ∃ fl, ascS l9 = fl := ⟨_, rfl⟩
        rw [hfl] at hown3 hP3 hL9
        have hgx : w2.heap.size ≠ g := by omega
        obtain ⟨y0, y1, y2, y3, y4⟩ := set5_cells (a := .string a0) (b := .string a1) (c := .int .i64 (nn : Int)) (d := .slice A9 L9 c9) (e := .slice A10 L10 c10) x0 x1 x2 x3 x4
        have hs4 := set5_scan (z := a0) (b2 := .string a1) (c2 := .int .i64 (nn : Int)) (d2 := .slice A9 L9 c9) (e2 := .slice A10 L10 c10) hs3 x0 hgx
        have ho4 : Only g w2 (set5 w3 w2.heap.size (.string a0) (.string a1) (.int .i64 (nn : Int)) (.slice A9 L9 c9) (.slice A10 L10 c10)) := set5_only ((Only.later (Only.refl g w2) (ext_alloc (Below.refl _ _) _)).trans ho3) (Or.inr (Nat.le_refl _))
        have hxo : Only w2.heap.size w3 (set5 w3 w2.heap.size (.string a0) (.string a1) (.int .i64 (nn : Int)) (.slice A9 L9 c9) (.slice A10 L10 c10)) := set5_only (Only.refl _ w3) (Or.inl rfl)
        have hown4 := Own.lower (C := w.heap.size) (hown3.noting hxo (by rw [World.size_alloc]; omega)) (by rw [World.size_alloc]; omega)
        have ht4 := own_times (owns_lower (C := w.heap.size) (times_noting ht3 hxo (by rw [World.size_alloc]; omega)) (by rw [World.size_alloc]; omega))
        obtain ⟨U, hU⟩ : ∃ U, set5 w3 w2.heap.size (.string a0) (.string a1) (.int .i64 (nn : Int)) (.slice A9 L9 c9) (.slice A10 L10 c10) = U := ⟨_, rfl⟩
        rw [hU] at y0 y1 y2 y3 y4 hs4 ho4 hown4 ht4
        unfold set5 at hU
        have hG4 := hG2.scan apart_room hs2 ho4 (by omega)
        have q4 := (ho4.cell v0 (by omega)).trans q2
        rw [hU]
        have hzU : w.heap.size ≤ U.heap.size := hG4.below.size
        clear hU x0 x1 x2 x3 x4 xf0 xf1 xf2 xf3 xf4 hs3 ho3 ho4 ht3 hxo hG2 hs2 c3 q2 eg hcall hbx hown3
        cases hsp : roomP d sl b m n line fs st.ls with
        | some p =>
          rw [hsp] at hs4 hstep
          obtain ⟨line', col, er⟩ := p
          obtain ⟨h, c3, p0, p1, p2, p3⟩ := scan_some hs4
          dsimp only at p0 p1 p2 p3 hstep
          clear hsp hs4 y0 y1 y2 y3 y4 q4 hP3 hown4 ht4
          have v1 : g < U.heap.size := World.block_lt_of_cell? _ _ c3
          have v2 : h < U.heap.size := World.block_lt_of_cell? _ _ p0
          go_wp2_with (at_builtin; refine wpList_append_own _ rfl _ _ 30 rfl w.heap.size 56 iP (.agg #[.int .i64 0, .int .i64 0, .int .i64 0, .int .i64 0]) 4 32 Tryz.underlying30 hiP hP0 hP1 hP2 rfl (by decide) _ _ _ rfl (hG4.alloc _).ps ⟨U.heap.size, 0, none⟩ 1 1 (encP (line', col, er)) rfl rfl (new_prob _ _ _ _ _) (one_prob _) ?c3 ?c4 ?c5 ?_)
          case c3 => unfold maxLen; omega
          case c4 => omega
          case c5 => rw [World.size_alloc]; omega
          intro v' w4 hPn hgrow _
          have hGn := (hG4.alloc _).prob (p := (line', col, er)) apart_room hgrow hPn
          clear hG4 c3 p0 p1 p2 p3 hPn hgrow
          go_wp2
          go_roundw
          case rel => exact ⟨j + 1, by rw [hNN.out]; omega, by go_num, by unfold readRoom; rw [hstep.out]; exact hGn⟩
          case measure => simp [intOf]; omega
        | none =>
          rw [hsp] at hs4 hstep
          have hcur := hP3 hsp
          have c3 := scan_none hs4
          have v1 : g < U.heap.size := World.block_lt_of_cell? _ _ c3
          have v2 : w2.heap.size < U.heap.size := World.block_lt_of_cell? _ _ y0
          have v3 : wr.heap.size < U.heap.size := World.block_lt_of_cell? _ _ q4
          dsimp only at hstep
          rw [← hcur] at hstep
          have n32 : st.lines.length ≤ 100000 := by rw [n2.out]; omega
          have n31 : st.ls.length ≤ 100000 := by omega
          have hn6 : Hid (∀ k, wr.heap.size ≤ k → some k ≠ (Value.slice A6 st.ls.length c6).ownBlock) := hide fun k hk e => by have := hu6.out k e.symm; omega
          have hn7 : Hid (∀ k, wr.heap.size ≤ k → some k ≠ u7.ownBlock) := hide fun k hk e => by have := hu7.out k e.symm; omega
          have e1 := hide (hn6.out w2.heap.size (by omega))
          have e2 := hide (hn6.out wr.heap.size (Nat.le_refl _))
          have e3 := hide (hn7.out w2.heap.size (by omega))
          have e4 := hide (hn7.out wr.heap.size (Nat.le_refl _))
          clear hsp hs4 hcur hP3
          go_upto_region 11 with fail
          clear c3
          have hGd := hG4.drew
          have hSd : Cn6 w2.heap.size 0 ((.string a0)) w2.heap.size 1 ((.string a1)) w2.heap.size 2 ((.int .i64 (nn : Int))) w2.heap.size 3 ((.slice A9 L9 c9)) w2.heap.size 4 ((.slice A10 L10 c10)) wr.heap.size 0 ((.int .i64 line)) U.drew := ⟨y0, y1, y2, y3, y4, q4⟩
          have hS0 : Cn6 w2.heap.size 0 ((.string a0)) w2.heap.size 1 ((.string a1)) w2.heap.size 2 ((.int .i64 (nn : Int))) w2.heap.size 3 ((.slice A9 L9 c9)) w2.heap.size 4 ((.slice A10 L10 c10)) wr.heap.size 0 ((.int .i64 line)) U := ⟨y0, y1, y2, y3, y4, q4⟩
          have hownd := hown4.drew
          have htd := ht4.drew
          clear y0 y1 y2 y3 y4 q4
          go_region_held3 (fun W' => W'.cell? ⟨w2.heap.size, 0, none⟩ = some ((.string a0)) ∧ W'.cell? ⟨w2.heap.size, 1, none⟩ = some ((.string a1)) ∧ W'.cell? ⟨w2.heap.size, 2, none⟩ = some ((.int .i64 (nn : Int))) ∧ W'.cell? ⟨w2.heap.size, 3, none⟩ = some ((.slice A9 L9 c9)) ∧ W'.cell? ⟨w2.heap.size, 4, none⟩ = some ((.slice A10 L10 c10)) ∧ W'.cell? ⟨wr.heap.size, 0, none⟩ = some ((.int .i64 line))) (first | ((repeat (first | (with_reducible assumption) | (with_reducible refine Cn6.alloc ?_ _) | (with_reducible refine Cn6.drew ?_) | (with_reducible refine Cn6.set ?_ ?_ ?_ ?_ ?_ ?_ ?_ _) | omega)); done)) (first | (refine stepg_ls (S := Cn6 w2.heap.size 0 ((.string a0)) w2.heap.size 1 ((.string a1)) w2.heap.size 2 ((.int .i64 (nn : Int))) w2.heap.size 3 ((.slice A9 L9 c9)) w2.heap.size 4 ((.slice A10 L10 c10)) wr.heap.size 0 ((.int .i64 line))) (K := kRoom) (t := 47) (ts := [9, 50]) (t2 := 29) (bytes := 88) (w0 := w) (u6 := .slice A6 st.ls.length c6) (u7 := u7) (u8 := u8) (ls := st.ls) (lines := st.lines) (ps := st.ps) apart_room apd_room (by decide) (by decide) rfl (.tmp 52) (.tmp 54) rfl (by rfl) (by repeat (first | (with_reducible assumption) | (with_reducible refine GG.alloc ?_ _) | (with_reducible refine GG.drew ?_))) n31 _ _ (by rfl) (a0, a1, (nn : Int), fl, ts) [.string a0, .string a1, .int .i64 (nn : Int), .slice A9 L9 c9, .slice A10 L10 c10] (room_rep (own_rep2 (K := kStr) (t := 9) (B := w.heap.size) (by repeat (first | (with_reducible assumption) | (with_reducible refine Own.alloc ?_ _) | (with_reducible refine Own.drew ?_))) (List.Mem.head _)) (own_rep2 (K := kTime) (t := 50) (B := w.heap.size) (by repeat (first | (with_reducible assumption) | (with_reducible refine Own.alloc ?_ _) | (with_reducible refine Own.drew ?_))) (List.Mem.tail _ (List.Mem.head _)))) (World.news_of_block (cs := #[.string a0, .string a1, .int .i64 (nn : Int), .slice A9 L9 c9, .slice A10 L10 c10]) (t := 47) (fr := (0, 0)) (by first | exact heap_alloc_new _ _ | exact heap_new2 _ _ _ | exact (Below.heap_alloc _ _ _ (by first | (simp; done) | (simp; omega))).trans (heap_alloc_new _ _))) (fun W' hg => Cn6.grown (by repeat (first | (with_reducible assumption) | (with_reducible refine Cn6.alloc ?_ _) | (with_reducible refine Cn6.drew ?_))) hg e1.out e1.out e1.out e1.out e1.out e2.out) ?_; intro gA capA w4 hg2 hgrow hs4) | (refine stepg_ins (S := Cn6 w2.heap.size 0 ((.string a0)) w2.heap.size 1 ((.string a1)) w2.heap.size 2 ((.int .i64 (nn : Int))) w2.heap.size 3 ((.slice A9 L9 c9)) w2.heap.size 4 ((.slice A10 L10 c10)) wr.heap.size 0 ((.int .i64 line))) (K := kRoom) (t := 47) (ts := [9, 50]) (w0 := w) (u6 := .slice (some ⟨gA, 0, none⟩) (st.ls.length + 1) capA) (u7 := u7) (u8 := u8) (ls := st.ls ++ [(a0, a1, (nn : Int), fl, ts)]) (lines := st.lines) (ps := st.ps) apart_room rfl (.tmp 56) (.tmp 59) rfl (by rfl) (by repeat (first | (with_reducible assumption) | (with_reducible refine GG.alloc ?_ _) | (with_reducible refine GG.drew ?_))) n32 _ _ (by rfl) line (World.news_of_block (cs := #[.int .i64 line]) (t := 3) (fr := (0, 0)) (by first | exact heap_alloc_new _ _ | exact heap_new2 _ _ _ | exact (Below.heap_alloc _ _ _ (by first | (simp; done) | (simp; omega))).trans (heap_alloc_new _ _) | exact (hgrow.block _ (by first | (simp; done) | (simp; omega)) (hn6.out _ (by first | omega | (simp; done) | (simp; omega)))).trans (by first | exact heap_alloc_new _ _ | exact heap_new2 _ _ _ | exact (Below.heap_alloc _ _ _ (by first | (simp; done) | (simp; omega))).trans (heap_alloc_new _ _)))) (fun W' hg => Cn6.grown (by repeat (first | (with_reducible assumption) | (with_reducible refine Cn6.alloc ?_ _) | (with_reducible refine Cn6.drew ?_))) hg e3.out e3.out e3.out e3.out e3.out e4.out) ?_; intro gB capB w5 hg3 hgrow3 hs5))
          all_goals
            clear hGd hSd hS0 hG4 hown4 hownd ht4 htd
            go_wp2
            go_roundw
            case rel => exact ⟨j + 1, by rw [hNN.out]; omega, by go_num, by unfold readRoom; rw [hstep.out]; exact hg3⟩
            case measure => simp [intOf]; omega
      · have hm2 : ((fs.length : Int) != 5) = true := by simp; omega
        rw [show gathStep 5 (roomP d sl b m n) (roomOf d sl b m n) st (line, fs) = ⟨st.ls, st.lines, st.ps ++ [(line, 0, 9)]⟩ from if_neg hm] at hstep
        replace hm := hide hm
        clear hat hSr
        go_wp2_with fail
        rw [hg.out]
        refine (whole_walk g line F fs.length c 0 none true 9 _ hsc0).mono ?_
        rintro e w2 ⟨rfl, hs2, ho2⟩
        obtain ⟨h, c3, p0, p1, p2, p3⟩ := scan_some hs2
        have hb2 : Below wr.heap.size wr w2 := hb1.trans (Only.below ho2 (by omega) hb1.size)
        have hG2 := hG.later hb2
        clear hsc0 hb1 q0 hs2 ho2 hG
        dsimp only at p0 p1 p2 p3
        have v1 := World.block_lt_of_cell? _ _ c3
        have v2 := World.block_lt_of_cell? _ _ p0
        have hz2 := hG2.below.size
        go_wp2_with (at_builtin; refine wpList_append_own _ rfl _ _ 30 rfl w.heap.size 56 iP (.agg #[.int .i64 0, .int .i64 0, .int .i64 0, .int .i64 0]) 4 32 Tryz.underlying30 hiP hP0 hP1 hP2 rfl (by decide) _ _ _ rfl ((hG2.alloc _).alloc _).ps ⟨w2.heap.size + 1, 0, none⟩ 1 1 (encP (line, 0, 9)) rfl rfl ?c0 (one_prob _) ?c3 ?c4 ?c5 ?_)
        case c0 => exact new_prob2 _ _ _ _ _ _
        case c3 => unfold maxLen; omega
        case c4 => omega
        case c5 => rw [World.size_alloc, World.size_alloc]; omega
        intro v' w4 hPn hgrow _
        have hGn := ((hG2.alloc _).alloc _).prob (p := (line, 0, 9)) apart_room hgrow hPn
        clear hG2 c3 p0 p1 p2 p3 hb2 hPn hgrow
        go_wp2
        go_roundw
        case rel => exact ⟨j + 1, by rw [hNN.out]; omega, by go_num, by unfold readRoom; rw [hstep.out]; exact hGn⟩
        case measure => simp [intOf]; omega
    · obtain rfl : j = N := by omega
      have hall : Hid (rs.take j = rs) := hide (by rw [← hNN.out]; exact List.take_length)
      rw [hall.out] at hG
      clear hall
      go_wp2
      go_ret3
      exact ⟨_, _, _, rfl, hG⟩
end Go.Proofs.YtnbcaklnpflihaaGreatDoor

namespace Go.Proofs.YtnbcaklnpflihaaGreatDoor
open Go.RowKit
set_option maxRecDepth 100000

def roomsRead (d sl b m n : Int) (rs : List Rec) : List Room × List Prob :=
  if weekB d sl b m n then ((readRoom d sl b m n rs).ls, (readRoom d sl b m n rs).ps) else ([], [(0, 0, 1)])
abbrev RoomsOwn (B : Nat) (w : World) (v : Value) (l : List Room) : Prop := Own kRoom 47 [9, 50] 0 B w v l
def RoomLines (d sl b m n : Int) (rs : List Rec) (w : World) (e : Ending) (w' : World) : Prop :=
  ∃ v6 v7 v8, e = .returned (.tuple #[v6, v7, v8]) ∧ RoomsOwn w.heap.size w' v6 (roomsRead d sl b m n rs).1 ∧ ProbsOwn w.heap.size w' v8 (roomsRead d sl b m n rs).2 ∧ Below w.heap.size w w'
set_option maxHeartbeats 4000000 in
theorem rlines_walk (d sl b m n : Int) (A : Option Addr) (rs : List Rec) (cap : Nat) (w : World) (hS : Std w) (hR : RecsAt w.heap.size w A rs) (hN : rs.length ≤ 4000000000000) (hs : ∀ r ∈ rs, ∀ f ∈ r.2, f.1.size < 1073741824) :
    Calls Tryz.prog 17 #[.slice A rs.length cap, .agg #[.int .i64 d, .int .i64 sl, .int .i64 b, .int .i64 m], .int .i64 n] w fun e w' => RoomLines d sl b m n rs w e w' := by
  have hb0 : Below w.heap.size w ((w.alloc (.cells #[.int .i64 d, .int .i64 sl, .int .i64 b, .int .i64 m] 24)).alloc (.cells #[.int .i64 n] 3)) := (by repeat (first | exact Below.refl _ _ | refine ext_alloc ?_ _ | refine ext_drewN ?_ _ | refine ext_drew ?_ | refine ext_trans ?_ (by assumption)))
  have bG := (Box4.new w 24 (.int .i64 d) (.int .i64 sl) (.int .i64 b) (.int .i64 m)).alloc (.cells #[.int .i64 n] 3)
  have bN : ((w.alloc (.cells #[.int .i64 d, .int .i64 sl, .int .i64 b, .int .i64 m] 24)).alloc (.cells #[.int .i64 n] 3)).cell? ⟨w.heap.size + 1, 0, none⟩ = some (.int .i64 n) := by
    have := (show ((w.alloc (.cells #[.int .i64 d, .int .i64 sl, .int .i64 b, .int .i64 m] 24)).alloc (.cells #[.int .i64 n] 3)).cell? ⟨(w.alloc (.cells #[.int .i64 d, .int .i64 sl, .int .i64 b, .int .i64 m] 24)).heap.size, 0, none⟩ = some (.int .i64 n) by simp)
    rw [World.size_alloc] at this
    exact this
  obtain ⟨W, hW⟩ : ∃ W, (w.alloc (.cells #[.int .i64 d, .int .i64 sl, .int .i64 b, .int .i64 m] 24)).alloc (.cells #[.int .i64 n] 3) = W := ⟨_, rfl⟩
  rw [hW] at hb0 bG bN
  obtain ⟨N, hN'⟩ : ∃ N, rs.length = N := ⟨_, rfl⟩
  have hSW := hS.after hb0
  replace hW := hide hW
  cases hw : weekB d sl b m n
  · have e1 : roomsRead d sl b m n rs = ([], [(0, 0, 1)]) := by unfold roomsRead; rw [hw]; rfl
    rw [hN']
    go_enter Tryz.func17, Tryz.ntmps17
    go_wp2_with fail
    rw [hW.out]
    refine (tgWeek_walk d sl b m n W).mono ?_
    rintro e w1 ⟨rfl, hb1⟩
    rw [hw]
    have hb := ext_trans hb0 hb1
    clear hW hb0 hb1 bG bN hSW hS hR hs
    go_wp2_with fail
    refine (invalid_walk w1).mono ?_
    rintro e w2 ⟨v, rfl, hp, hb2⟩
    go_wp2
    go_ret3
    exact ⟨_, _, _, rfl, by rw [e1]; exact Own.nil, by rw [e1]; exact owns_lower hp hb.size, ext_trans hb hb2⟩
  · have e1 : roomsRead d sl b m n rs = ((readRoom d sl b m n rs).ls, (readRoom d sl b m n rs).ps) := by unfold roomsRead; rw [hw]; rfl
    rw [hN']
    go_enter Tryz.func17, Tryz.ntmps17
    go_wp2_with fail
    rw [hW.out]
    refine (tgWeek_walk d sl b m n W).mono ?_
    rintro e w1 ⟨rfl, hb1⟩
    rw [hw]
    have hb := ext_trans hb0 hb1
    have hC : Cl w.heap.size (w.heap.size + 1) d sl b m n w1 := by
      obtain ⟨g0, g1, g2, g3⟩ := bG
      exact ⟨cell_later hb1 g0, cell_later hb1 g1, cell_later hb1 g2, cell_later hb1 g3, cell_later hb1 bN⟩
    have hR1 := (hR.below hb).more hb.size
    have hcall := rread_walk w.heap.size (w.heap.size + 1) d sl b m n A rs cap w1 (hSW.after hb1) hC hR1 hN hs
    rw [hN'] at hcall
    clear hW hb0 hb1 bG bN hSW hS hR hs hR1 hC
    go_wp2_with fail
    refine hcall.mono ?_
    rintro e w2 ⟨v6, v7, v8, rfl, hG⟩
    have hL := hG.ls
    have hP := hG.ps
    have hb2 := hG.below
    clear hcall
    go_wp2
    go_ret3
    exact ⟨_, _, _, rfl, by rw [e1]; exact hL.lower hb.size, by rw [e1]; exact owns_lower hP hb.size, ext_trans hb hb2⟩
def RoomReads (d sl b m n : Int) (rs : List Rec) (w : World) (e : Ending) (w' : World) : Prop :=
  ∃ v6 v8, e = .returned (.tuple #[v6, v8]) ∧ RoomsOwn w.heap.size w' v6 (roomsRead d sl b m n rs).1 ∧ ProbsOwn w.heap.size w' v8 (roomsRead d sl b m n rs).2 ∧ Below w.heap.size w w'
set_option maxHeartbeats 4000000 in
theorem rfread_walk (d sl b m n : Int) (A : Option Addr) (rs : List Rec) (cap : Nat) (w : World) (hS : Std w) (hR : RecsAt w.heap.size w A rs) (hN : rs.length ≤ 4000000000000) (hs : ∀ r ∈ rs, ∀ f ∈ r.2, f.1.size < 1073741824) :
    Calls Tryz.prog 6 #[.slice A rs.length cap, .agg #[.int .i64 d, .int .i64 sl, .int .i64 b, .int .i64 m], .int .i64 n] w fun e w' => RoomReads d sl b m n rs w e w' := by
  have hb0 : Below w.heap.size w (w.alloc (.cells #[.int .i64 d, .int .i64 sl, .int .i64 b, .int .i64 m] 24)) := (by repeat (first | exact Below.refl _ _ | refine ext_alloc ?_ _ | refine ext_drewN ?_ _ | refine ext_drew ?_ | refine ext_trans ?_ (by assumption)))
  have hcall := rlines_walk d sl b m n A rs cap _ (hS.after hb0) ((hR.below hb0).more hb0.size) hN hs
  obtain ⟨N, hN'⟩ : ∃ N, rs.length = N := ⟨_, rfl⟩
  rw [hN'] at hcall ⊢
  clear hR hs hS
  go_enter Tryz.func6, Tryz.ntmps6
  go_wp2_with fail
  refine hcall.mono ?_
  rintro e w2 ⟨v6, v7, v8, rfl, hL, hP, hb2⟩
  clear hcall
  go_wp2
  go_ret2
  exact ⟨_, _, rfl, hL.lower hb0.size, owns_lower hP hb0.size, ext_trans hb0 hb2⟩
end Go.Proofs.YtnbcaklnpflihaaGreatDoor

namespace Go.Proofs.YtnbcaklnpflihaaGreatDoor
open Go.RowKit
set_option maxRecDepth 100000

def f07 : List ByteArray := [⟨#[82, 49]⟩, ⟨#[66]⟩, ⟨#[51, 48]⟩, ⟨#[108, 97, 98, 59, 98, 101, 97, 109, 101, 114]⟩, ⟨#[77, 111, 32, 49, 45, 50]⟩]
def room07 : Room := (⟨#[82, 49]⟩, ⟨#[66]⟩, 30, [⟨#[98, 101, 97, 109, 101, 114]⟩, ⟨#[108, 97, 98]⟩], [(15, 0, 0, 2)])
theorem read07 : roomsRead 5 8 480 45 4 (plainR 1 [f07]) = ([room07], []) := by kernel_rfl
set_option maxHeartbeats 800000 in
theorem rfOpen_walk (v0 v1 v2 v3 : Value) (A : Option Addr) (n c : Nat) (ts : Nat → T4) (b1 b2 b3 b4 : Int) (w : World) (hn : n ≤ 9223372036854775807)
    (hX : CellsAt w.heap.size w A 4 n fun j => encT (ts j)) :
    Calls Tryz.prog 16 #[.agg #[v0, v1, v2, v3, .slice A n c], .agg #[.int .i64 b1, .int .i64 b2, .int .i64 b3, .int .i64 b4]] w fun e w' => e = .returned (.bool (!orTo (fun j => overlapB (ts j).1 (ts j).2.1 (ts j).2.2.1 (ts j).2.2.2 b1 b2 b3 b4) n)) ∧ Below w.heap.size w w' := by
  have hb0 : Below w.heap.size w ((w.alloc (.cells #[v0, v1, v2, v3, .slice A n c] 47)).alloc (.cells #[.int .i64 b1, .int .i64 b2, .int .i64 b3, .int .i64 b4] 50)) := (by repeat (first | exact Below.refl _ _ | refine ext_alloc ?_ _ | refine ext_drewN ?_ _ | refine ext_drew ?_ | refine ext_trans ?_ (by assumption)))
  have hcall := apart_walk A n c ts b1 b2 b3 b4 ((w.alloc (.cells #[v0, v1, v2, v3, .slice A n c] 47)).alloc (.cells #[.int .i64 b1, .int .i64 b2, .int .i64 b3, .int .i64 b4] 50)) hn
    (fun hn' => by obtain ⟨b, off, e, h1, h2⟩ := (hX.below hb0) hn'; exact ⟨b, off, e, by rw [World.size_alloc, World.size_alloc]; omega, h2⟩)
  clear hX
  obtain ⟨r, hr⟩ : ∃ r, (!orTo (fun j => overlapB (ts j).1 (ts j).2.1 (ts j).2.2.1 (ts j).2.2.2 b1 b2 b3 b4) n) = r := ⟨_, rfl⟩
  rw [hr] at hcall ⊢
  clear hr
  go_enter Tryz.func16, Tryz.ntmps16
  go_wp2_with fail
  refine hcall.mono ?_
  rintro e w' ⟨rfl, hb⟩
  go_wp2
  go_ret
  exact ⟨rfl, ext_trans hb0 hb⟩
end Go.Proofs.YtnbcaklnpflihaaGreatDoor

namespace Go.Proofs.YtnbcaklnpflihaaGreatDoor
open Go.RowKit
set_option maxRecDepth 100000

theorem open07 : (!orTo (fun j => overlapB (([(15, 0, 0, 2)] : List T4).getD j (0, 0, 0, 0)).1 (([(15, 0, 0, 2)] : List T4).getD j (0, 0, 0, 0)).2.1 (([(15, 0, 0, 2)] : List T4).getD j (0, 0, 0, 0)).2.2.1 (([(15, 0, 0, 2)] : List T4).getD j (0, 0, 0, 0)).2.2.2 15 0 0 2) 1) = false := by decide +kernel
set_option maxHeartbeats 4000000 in
theorem awake07_walk (w : World) (hS : Std w) :
    Calls Tryz.prog 5 #[] w fun e w' => e = .returned (.bool true) ∧ Below w.heap.size w w' := by
  obtain ⟨W, hW⟩ : ∃ W, (w.alloc (.cells #[.string ⟨#[82, 49]⟩, .string ⟨#[66]⟩, .string ⟨#[51, 48]⟩, .string ⟨#[108, 97, 98, 59, 98, 101, 97, 109, 101, 114]⟩, .string ⟨#[77, 111, 32, 49, 45, 50]⟩] 9)).alloc (.cells #[.slice (some ⟨w.heap.size, 0, none⟩) 5 5] 44) = W := ⟨_, rfl⟩
  have hb0 : Below w.heap.size w W := by rw [← hW]; exact (by repeat (first | exact Below.refl _ _ | refine ext_alloc ?_ _ | refine ext_drewN ?_ _ | refine ext_drew ?_ | refine ext_trans ?_ (by assumption)))
  have hX : ListsIn W.heap.size W (some ⟨w.heap.size + 1, 0, none⟩) [f07] := by
    rw [← hW]
    intro _
    refine ⟨w.heap.size + 1, 0, rfl, by simp, fun j x hx => ?_⟩
    match j, hx with
    | 0, hx =>
      simp at hx
      subst hx
      have c0 : ∀ A : World, (A.alloc (.cells #[.slice (some ⟨w.heap.size, 0, none⟩) 5 5] 44)).cell? ⟨A.heap.size, 0, none⟩ = some (.slice (some ⟨w.heap.size, 0, none⟩) 5 5) := fun A => by simp
      have c1 := c0 (w.alloc (.cells #[.string ⟨#[82, 49]⟩, .string ⟨#[66]⟩, .string ⟨#[51, 48]⟩, .string ⟨#[108, 97, 98, 59, 98, 101, 97, 109, 101, 114]⟩, .string ⟨#[77, 111, 32, 49, 45, 50]⟩] 9))
      rw [World.size_alloc] at c1
      refine ⟨some ⟨w.heap.size, 0, none⟩, 5, c1, fun _ => ⟨w.heap.size, 0, rfl, by simp; omega, fun k z hz => ?_⟩⟩
      unfold f07 at hz
      match k, hz with
      | 0, hz => simp at hz; subst hz; simp
      | 1, hz => simp at hz; subst hz; simp
      | 2, hz => simp at hz; subst hz; simp
      | 3, hz => simp at hz; subst hz; simp
      | 4, hz => simp at hz; subst hz; simp
      | k + 5, hz => simp at hz
    | j + 1, hx => simp at hx
  have hpl := plain_walk (some ⟨w.heap.size + 1, 0, none⟩) [f07] 1 W hX (by decide) (by decide)
  have hS0 := hS.after hb0
  replace hW := hide hW
  clear hX
  go_enter Tryz.func5, Tryz.ntmps5
  go_wp2_with fail
  rw [hW.out]
  refine hpl.mono ?_
  clear hpl
  rintro e w1 ⟨v, rfl, hR, hb1⟩
  obtain ⟨A1, c1, rfl⟩ : ∃ A1 c1, v = .slice A1 1 c1 := by obtain ⟨us, -, h, -⟩ := hR; exact owns_form h
  have hb := ext_trans hb0 hb1
  have hR1 := recs_at hR
  have hS1 := hS0.after hb1
  have hcall := rfread_walk 5 8 480 45 4 A1 (plainR 1 [f07]) c1 w1 hS1 hR1 (by decide) (by decide)
  clear hb0 hb1 hS0 hR hR1 hW
  go_wp2_with fail
  refine hcall.mono ?_
  clear hcall
  rintro e w3 ⟨v6, v8, rfl, hL, hP, hb3⟩
  rw [read07] at hL hP
  obtain ⟨A6, c6, rfl, -, hat⟩ := hL.any
  obtain ⟨A8, c8, rfl⟩ : ∃ A8 c8, v8 = .slice A8 0 c8 := owns_form hP
  obtain ⟨gb, go, A3, c3, A4, c4, rfl, -, hgl, ⟨q0, q1, q2, q3, q4⟩, l3, l4, a3, a4⟩ := hat.any.room (j := 0) (x := room07) rfl
  rw [Nat.zero_mul, Nat.add_zero] at q0 q1 q2 q3 q4
  obtain ⟨fb, fo, rfl, -, hfl, x0⟩ := a3.str (j := 0) rfl
  rw [Nat.add_zero] at x0
  have hC := cells_of_at a4.lo
  obtain ⟨tb, tof, rfl, htl, tc⟩ := hC (by decide)
  have t0 := tc 0 (by decide) 0 _ rfl
  have t1 := tc 0 (by decide) 1 _ rfl
  have t2 := tc 0 (by decide) 2 _ rfl
  have t3 := tc 0 (by decide) 3 _ rfl
  rw [Nat.zero_mul, Nat.add_zero] at t0 t1 t2 t3
  dsimp only [room07, List.getD] at t0 t1 t2 t3
  replace hb := ext_trans hb hb3
  have hCn : Cn10 gb go (.string ⟨#[82, 49]⟩) gb (go + 1) (.string ⟨#[66]⟩) gb (go + 2) (.int .i64 30) gb (go + 3) (.slice (some ⟨fb, fo, none⟩) 2 c3) gb (go + 4) (.slice (some ⟨tb, tof, none⟩) 1 c4) fb fo (.string ⟨#[98, 101, 97, 109, 101, 114]⟩) tb tof (.int .i64 15) tb (tof + 1) (.int .i64 0) tb (tof + 2) (.int .i64 0) tb (tof + 3) (.int .i64 2) w3 := ⟨q0, q1, q2, q3, q4, x0, t0, t1, t2, t3⟩
  have hopen := hide (fun (V : World) (hV : Below w3.heap.size w3 V) => (rfOpen_walk (.string ⟨#[82, 49]⟩) (.string ⟨#[66]⟩) (.int .i64 30) (.slice (some ⟨fb, fo, none⟩) 2 c3) (some ⟨tb, tof, none⟩) 1 c4 (fun j => ([(15, 0, 0, 2)] : List T4).getD j (0, 0, 0, 0)) 15 0 0 2 V (by omega) ((hC.below hV).more hV.size)).mono fun _ _ ⟨he, hb⟩ => (⟨he.trans (by rw [open07]), ext_trans hV hb, hCn.later (ext_trans hV hb)⟩ : _ = Ending.returned (.bool false) ∧ Below w3.heap.size w3 _ ∧ Cn10 gb go (.string ⟨#[82, 49]⟩) gb (go + 1) (.string ⟨#[66]⟩) gb (go + 2) (.int .i64 30) gb (go + 3) (.slice (some ⟨fb, fo, none⟩) 2 c3) gb (go + 4) (.slice (some ⟨tb, tof, none⟩) 1 c4) fb fo (.string ⟨#[98, 101, 97, 109, 101, 114]⟩) tb tof (.int .i64 15) tb (tof + 1) (.int .i64 0) tb (tof + 2) (.int .i64 0) tb (tof + 3) (.int .i64 2) _))
  have hCd := hCn.drew
  have hrefl := Below.refl w3.heap.size w3
  obtain ⟨z0, z1, z2, z3, z4, z5, z6, z7, z8, z9⟩ := id hCn
  clear hL hP hb3 hat a3 a4 tc hC q0 q1 q2 q3 q4 x0 t0 t1 t2 t3 l3 l4
  dsimp only [room07, List.length] at *
  go_upto_region 2 with fail
  go_region_held3 (fun W' => W'.cell? ⟨gb, go, none⟩ = some (.string ⟨#[82, 49]⟩) ∧ W'.cell? ⟨gb, go + 1, none⟩ = some (.string ⟨#[66]⟩) ∧ W'.cell? ⟨gb, go + 2, none⟩ = some (.int .i64 30) ∧ W'.cell? ⟨gb, go + 3, none⟩ = some (.slice (some ⟨fb, fo, none⟩) 2 c3) ∧ W'.cell? ⟨gb, go + 4, none⟩ = some (.slice (some ⟨tb, tof, none⟩) 1 c4) ∧ W'.cell? ⟨fb, fo, none⟩ = some (.string ⟨#[98, 101, 97, 109, 101, 114]⟩) ∧ W'.cell? ⟨tb, tof, none⟩ = some (.int .i64 15) ∧ W'.cell? ⟨tb, tof + 1, none⟩ = some (.int .i64 0) ∧ W'.cell? ⟨tb, tof + 2, none⟩ = some (.int .i64 0) ∧ W'.cell? ⟨tb, tof + 3, none⟩ = some (.int .i64 2)) (first | ((repeat (first | (with_reducible assumption) | (with_reducible refine Cn10.alloc ?_ _) | (with_reducible refine Cn10.drew ?_) | (with_reducible refine Cn10.set ?_ ?_ ?_ ?_ ?_ ?_ ?_ ?_ ?_ ?_ ?_ _) | omega)); done)) (first | (go_at_call 16; refine (hopen.out _ (by repeat (first | (with_reducible assumption) | (with_reducible refine ext_alloc ?_ _) | (with_reducible refine ext_drew ?_)))).mono ?_; rintro e w4 ⟨rfl, hb4, hx4⟩))
  all_goals
    go_wp2
    go_ret
    exact ⟨rfl, by first | exact ext_trans hb (ext_drew hb4) | exact ext_trans hb hb4⟩
end Go.Proofs.YtnbcaklnpflihaaGreatDoor

namespace Go.Proofs.YtnbcaklnpflihaaGreatDoor
open Go.RowKit
set_option maxRecDepth 100000

theorem rowsR_len (d sl b m n : Int) (ls : List Room) : ∀ x ∈ rowsR d sl b m n ls, x.length ≤ 9223372036854775807 := by
  intro x hx
  unfold rowsR at hx
  split at hx
  · obtain ⟨l, -, rfl⟩ := List.mem_map.1 hx
    simp [rowR]
  · simp at hx
set_option maxHeartbeats 8000000 in
theorem valid7_walk (A : Option Addr) (ls : List Room) (cap : Nat) (d sl b m n : Int) (w : World) (hS : Std w) (hW : Wds w) (hD : Dys w) (hL : At kRoom AnyB w A ls) :
    Calls Tryz.prog 4 #[.slice A ls.length cap, .agg #[.int .i64 d, .int .i64 sl, .int .i64 b, .int .i64 m], .int .i64 n] w fun e w' => e = .returned (.bool true) ∧ Below w.heap.size w w' := by
  have hb0 : Below w.heap.size w (w.alloc (.cells #[.int .i64 d, .int .i64 sl, .int .i64 b, .int .i64 m] 24)) := (by repeat (first | exact Below.refl _ _ | refine ext_alloc ?_ _ | refine ext_drewN ?_ _ | refine ext_drew ?_ | refine ext_trans ?_ (by assumption)))
  have bG := Box4.new w 24 (.int .i64 d) (.int .i64 sl) (.int .i64 b) (.int .i64 m)
  obtain ⟨W, hWW⟩ : ∃ W, w.alloc (.cells #[.int .i64 d, .int .i64 sl, .int .i64 b, .int .i64 m] 24) = W := ⟨_, rfl⟩
  obtain ⟨gb, hgb⟩ : ∃ gb, w.heap.size = gb := ⟨_, rfl⟩
  have hL0 := hL.later hb0
  have hS0 := hS.after hb0
  have hW0 := hW.after hb0 hS
  have hD0 := hD.after hb0 hS
  rw [hWW] at hb0 bG hL0 hS0 hW0 hD0
  rw [hgb] at bG
  have hgl := bG.lt
  obtain ⟨g0, g1, g2, g3⟩ := bG
  clear hL hS hW hD
  obtain ⟨N, hN⟩ : ∃ N, ls.length = N := ⟨_, rfl⟩
  have hw1 := fun (V : World) (hV : Below W.heap.size W V) => rfWrite_walk A ls cap d sl b m n V (hS0.after hV) (hL0.later hV)
  have hw2 := fun (V : World) (hV : Below W.heap.size W V) => r7Write_walk A ls cap d sl b m n V (hS0.after hV) (hW0.after hV hS0) (hD0.after hV hS0) (hL0.later hV)
  have hv1 := fun (V : World) (hV : Below W.heap.size W V) => rfValid_walk A ls cap d sl b m n V (hL0.later hV)
  have hv2 := fun (V : World) (hV : Below W.heap.size W V) => r7Valid_walk A ls cap d sl b m n V (hL0.later hV)
  have haw := fun (V : World) (hV : Below W.heap.size W V) => awake07_walk V (hS0.after hV)
  have hrl := rowsR_len d sl b m n ls
  unfold RWriteIs at hw1 hw2
  obtain ⟨R, hR⟩ : ∃ R, rowsR d sl b m n ls = R := ⟨_, rfl⟩
  obtain ⟨E, hE⟩ : ∃ E, validR d sl b m n ls = E := ⟨_, rfl⟩
  rw [hN] at hw1 hw2 hv1 hv2 ⊢
  rw [hR] at hrl
  simp only [hR, hE] at hw1 hw2 hv1 hv2
  replace hw1 := hide hw1
  replace hw2 := hide hw2
  replace hv1 := hide hv1
  replace hv2 := hide hv2
  replace haw := hide haw
  replace hN := hide hN
  replace hgb := hide hgb
  replace hWW := hide hWW
  replace hrl := hide hrl
  clear hR hE
  go_enter Tryz.func4, Tryz.ntmps4
  go_wp2_with fail
  rw [hWW.out, hgb.out]
  refine (hw1.out W (Below.refl _ _)).mono ?_
  rintro e w1 ⟨va, rfl, hoa, hb1⟩
  replace g0 := cell_later hb1 g0
  replace g1 := cell_later hb1 g1
  replace g2 := cell_later hb1 g2
  replace g3 := cell_later hb1 g3
  have hgl1 : gb < w1.heap.size := World.block_lt_of_cell? _ _ g0
  clear hw1
  go_wp2_with fail
  refine (hw2.out w1 hb1).mono ?_
  rintro e wr ⟨vb, rfl, hob, hb2⟩
  replace g0 := cell_later hb2 g0
  replace g1 := cell_later hb2 g1
  replace g2 := cell_later hb2 g2
  replace g3 := cell_later hb2 g3
  replace hoa := hoa.later hb2
  have hbr : Below W.heap.size W wr := ext_trans hb1 hb2
  clear hw2 hb1 hb2 hgl1 hgl
  obtain ⟨Aa, ca, rfl, -, hAa⟩ := hoa.any
  obtain ⟨Ab, cb, rfl, -, hAb⟩ := hob.any
  have hRl : R.length ≤ 9223372036854775807 := hoa.le
  have hC : Cn4 gb 0 (.int .i64 d) gb 1 (.int .i64 sl) gb 2 (.int .i64 b) gb 3 (.int .i64 m) wr := ⟨g0, g1, g2, g3⟩
  have ha := hide (fun (V : World) (hV : Below wr.heap.size wr V) => (haw.out V (ext_trans hbr hV)).mono fun _ _ ⟨he, hb⟩ => (⟨he, ext_trans hV hb, hC.later (ext_trans hV hb)⟩ : _ ∧ Below wr.heap.size wr _ ∧ Cn4 gb 0 (.int .i64 d) gb 1 (.int .i64 sl) gb 2 (.int .i64 b) gb 3 (.int .i64 m) _))
  have h1 := hide (fun (V : World) (hV : Below wr.heap.size wr V) => (hv1.out V (ext_trans hbr hV)).mono fun _ _ ⟨he, hb⟩ => (⟨he, ext_trans hV hb, hC.later (ext_trans hV hb)⟩ : _ ∧ Below wr.heap.size wr _ ∧ Cn4 gb 0 (.int .i64 d) gb 1 (.int .i64 sl) gb 2 (.int .i64 b) gb 3 (.int .i64 m) _))
  have h2 := hide (fun (V : World) (hV : Below wr.heap.size wr V) => (hv2.out V (ext_trans hbr hV)).mono fun _ _ ⟨he, hb⟩ => (⟨he, ext_trans hV hb, hC.later (ext_trans hV hb)⟩ : _ ∧ Below wr.heap.size wr _ ∧ Cn4 gb 0 (.int .i64 d) gb 1 (.int .i64 sl) gb 2 (.int .i64 b) gb 3 (.int .i64 m) _))
  have h3 := hide (fun (V : World) (hV : Below wr.heap.size wr V) => (r2SameL_walk Aa Ab R ca cb V hRl hrl.out (hAa.any.later hV) (hAb.any.later hV)).mono fun _ _ ⟨he, hb⟩ => (⟨he, ext_trans hV hb, hC.later (ext_trans hV hb)⟩ : _ ∧ Below wr.heap.size wr _ ∧ Cn4 gb 0 (.int .i64 d) gb 1 (.int .i64 sl) gb 2 (.int .i64 b) gb 3 (.int .i64 m) _))
  have hCd := hC.drew
  have hrefl := Below.refl wr.heap.size wr
  have hgr : gb < wr.heap.size := World.block_lt_of_cell? _ _ g0
  have hbf : Below w.heap.size w wr := ext_trans hb0 hbr
  obtain ⟨q2, q3, q4, q5⟩ := id hC
  clear hoa hob hL0 hS0 hW0 hD0 g0 g1 g2 g3 haw hv1 hv2 hAa hAb
  go_wp2_with fail
  go_region_held3 (fun W' => W'.cell? ⟨gb, 0, none⟩ = some (.int .i64 d) ∧ W'.cell? ⟨gb, 1, none⟩ = some (.int .i64 sl) ∧ W'.cell? ⟨gb, 2, none⟩ = some (.int .i64 b) ∧ W'.cell? ⟨gb, 3, none⟩ = some (.int .i64 m)) (first | ((repeat (first | (with_reducible assumption) | (with_reducible refine Cn4.alloc ?_ _) | (with_reducible refine Cn4.drew ?_) | (with_reducible refine Cn4.set ?_ ?_ ?_ ?_ ?_ _) | omega)); done)) (first | (go_at_call 5; refine (ha.out _ (by repeat (first | (with_reducible assumption) | (with_reducible refine ext_alloc ?_ _) | (with_reducible refine ext_drew ?_)))).mono ?_; rintro e w3 ⟨rfl, hb3, hx3⟩) | (go_at_call 12; refine (h1.out _ (by repeat (first | (with_reducible assumption) | (with_reducible refine ext_alloc ?_ _) | (with_reducible refine ext_drew ?_)))).mono ?_; rintro e w4 ⟨rfl, hb4, hx4⟩) | (go_at_call 13; refine (h2.out _ (by repeat (first | (with_reducible assumption) | (with_reducible refine ext_alloc ?_ _) | (with_reducible refine ext_drew ?_)))).mono ?_; rintro e w5 ⟨rfl, hb5, hx5⟩) | (go_at_call 14; refine (h3.out _ (by repeat (first | (with_reducible assumption) | (with_reducible refine ext_alloc ?_ _) | (with_reducible refine ext_drew ?_)))).mono ?_; rintro e w6 ⟨rfl, hb6, hx6⟩))
  all_goals
    go_wp2
    go_ret
    exact ⟨rfl, by first | exact ext_trans hbf hb6 | exact ext_drew (ext_trans hbf hb6)⟩
end Go.Proofs.YtnbcaklnpflihaaGreatDoor

/- Walk of the closure of requests.Lines: one request is read. Conditions: the scanner's cells are as Scan says; texts shorter than 2^30 bytes. Walk of fields.Read at requests. Conditions: texts shorter than 2^30 bytes; what the program's variables hold. Three objects made; a field's text. No condition. Walk of timetableref12.Same at equal lists. Conditions: the cells. Walk of timetableref12.Students. Conditions: the requests' cells; at most 1000000000 requests. -/
import Derived.Test.YthejgholpkeldaaGreatDoorShelfS
import Derived.Test.YthejgholpkeldaaGreatDoorRows
import Derived.WalkKit
import Derived.WalkSpells
import Derived.WalkLawsBesides
import Derived.BigGuardPart
import Derived.Lib.Hide
import Derived.Laws.BitsAllLaws
import Derived.Laws.BitsLemmas
import Derived.Lib.LaidTab
import Derived.Test.YthejgholpkeldaaGreatDoorShelf
import Derived.Lib.ConvBytes
import Derived.Deep.QuietTactic
import Derived.BigQuiet
import Derived.Laws.ResultCell
import Derived.RegionTactic
import Derived.BigRegion
import Derived.Deep.RegionHeld3
import Derived.Deep.DeepCutAuto
import Derived.Lib.SmallJoins
import Derived.Lib.SplitLaws
import Derived.Lib.CountLaws
import Derived.Lib.IndexMore
import Derived.Lib.Split
import Derived.Lib.Join
import Derived.Lib.ItoaNum
import Derived.Laws.AppendOwn
import Derived.Test.YthejgholpkeldaaGreatDoorShelfT
import Derived.Lib.ItoaLen
import Derived.Lib.AppendIntMem
import Derived.Deep.AppendLies
import Derived.Lib.PathFns
import Derived.Maps.Range
import Derived.Lib.OwnBridge
import Derived.Sort.OwnSorted
import Derived.Sort.Walk0
import Derived.Test.YthejgholpkeldaaGreatDoorCards
import Derived.Test.YthejgholpkeldaaGreatDoorTie
import Derived.ProofKit
import Derived.OpenShut
import Derived.LaidMore
import Derived.Lay
import Derived.SevenTiedAt
import Derived.Stop.Joined
import Derived.Stop.LaidErr
import Derived.Deep.DeepHandedRow
import Derived.Lib.LaidU8
import Derived.LaidSub
import Derived.Deep.Slices
import Derived.Deep.Fields
import Derived.ChangeSame
import Derived.Maps.OwnSet
import Derived.Deep.RegionLaw
import Derived.Deep.RegionLawGrows
import Derived.StringKeys
import Derived.Sort.LotA
import Derived.Test.YthejgholpkeldaaGreatDoorZFound
import Derived.Test.YthejgholpkeldaaGreatDoorZDOddQ
import Derived.Test.YthejgholpkeldaaGreatDoorZSameL
import Derived.Test.YthejgholpkeldaaGreatDoorZReqP
import Derived.Test.YthejgholpkeldaaGreatDoorZPairs
import Derived.Test.YthejgholpkeldaaGreatDoorZJoinR
import Derived.Test.YthejgholpkeldaaGreatDoorZMetP
import Derived.Test.YthejgholpkeldaaGreatDoorZCmpR
namespace Go.Proofs.YthejgholpkeldaaGreatDoor
open Go.RowKit
set_option maxRecDepth 100000

def set4q (w : World) (r : Nat) (a b c d : Value) : World := (((w.setCell ⟨r, 0, none⟩ a).setCell ⟨r, 1, none⟩ b).setCell ⟨r, 2, none⟩ c).setCell ⟨r, 3, none⟩ d
theorem set4q_cells {w : World} {r : Nat} {a b c d a' b' c' d' : Value} (h0 : w.cell? ⟨r, 0, none⟩ = some a') (h1 : w.cell? ⟨r, 1, none⟩ = some b') (h2 : w.cell? ⟨r, 2, none⟩ = some c') (h3 : w.cell? ⟨r, 3, none⟩ = some d') :
    (set4q w r a b c d).cell? ⟨r, 0, none⟩ = some a ∧ (set4q w r a b c d).cell? ⟨r, 1, none⟩ = some b ∧ (set4q w r a b c d).cell? ⟨r, 2, none⟩ = some c ∧ (set4q w r a b c d).cell? ⟨r, 3, none⟩ = some d := by
  have o : ∀ (W : World) (i j : Nat) (u : Value), i ≠ j → (W.setCell ⟨r, i, none⟩ u).cell? ⟨r, j, none⟩ = W.cell? ⟨r, j, none⟩ := fun W i j u h => World.cell?_setCell_other _ _ _ _ (by intro e; injection e with e1 e2; first | exact h e2 | exact h e2.symm)
  unfold set4q
  refine ⟨?_, ?_, ?_, ?_⟩
  · rw [o _ _ _ _ (by decide), o _ _ _ _ (by decide), o _ _ _ _ (by decide)]; exact World.cell?_setCell_same _ _ _ h0
  · rw [o _ _ _ _ (by decide), o _ _ _ _ (by decide)]; exact World.cell?_setCell_same _ _ _ ((o _ _ _ _ (by decide)).trans h1)
  · rw [o _ _ _ _ (by decide)]; exact World.cell?_setCell_same _ _ _ ((o _ _ _ _ (by decide)).trans ((o _ _ _ _ (by decide)).trans h2))
  · exact World.cell?_setCell_same _ _ _ ((o _ _ _ _ (by decide)).trans ((o _ _ _ _ (by decide)).trans ((o _ _ _ _ (by decide)).trans h3)))
theorem set4q_scan {w : World} {g r : Nat} {line : Int} {F : Option Addr} {m c k : Nat} {pr : Option Prob} {z z' : ByteArray} {b2 c2 d2 : Value} (h : Scan w g line F m c k pr) (h0 : w.cell? ⟨r, 0, none⟩ = some (.string z')) (hne : r ≠ g) : Scan (set4q w r (.string z) b2 c2 d2) g line F m c k pr := by
  have o : ∀ (W : World) (i j : Nat) (u : Value), i ≠ j → (W.setCell ⟨r, i, none⟩ u).cell? ⟨r, j, none⟩ = W.cell? ⟨r, j, none⟩ := fun W i j u h => World.cell?_setCell_other _ _ _ _ (by intro e; injection e with e1 e2; first | exact h e2 | exact h e2.symm)
  have s0 : (w.setCell ⟨r, 0, none⟩ (.string z)).cell? ⟨r, 0, none⟩ = some (.string z) := World.cell?_setCell_same _ _ _ h0
  unfold set4q
  exact scan_set (scan_set (scan_set (scan_set h h0 hne) s0 hne) ((o _ _ _ _ (by decide)).trans s0) hne) ((o _ _ _ _ (by decide)).trans ((o _ _ _ _ (by decide)).trans s0)) hne
theorem set4q_only {a w : World} {g r : Nat} {b1 b2 c2 d2 : Value} (h : Only g a w) (hp : r = g ∨ a.heap.size ≤ r) : Only g a (set4q w r b1 b2 c2 d2) :=
  only_setCell (only_setCell (only_setCell (only_setCell h hp _) hp _) hp _) hp _
def ReqGives (g : Nat) (line : Int) (F : Option Addr) (fs : List Fld) (c : Nat) (ls : List Req) (w : World) (e : Ending) (w' : World) : Prop :=
  ∃ (t0 t1 : ByteArray) (nn : Nat) (l : List ByteArray) (v : Value) (k : Nat), e = .returned (.agg #[.string t0, .string t1, .int .i64 (nn : Int), v]) ∧ Own kStr 9 [] 0 w.heap.size w' v l ∧ Scan w' g line F fs.length c k (reqP line fs ls) ∧ (reqP line fs ls = none → (t0, t1, (nn : Int), l) = reqOf fs) ∧ Only g w w'
/-- Whether there are too many: what the region of many says. -/
theorem many_eq (ls : List Req) (s : ByteArray) (q n k : Nat) (hq : ls.length = q) (hn : (freshS (studs ls)).length = n) (hk : countS s (studs ls) = k) : manyQ ls s = (decide (400 ≤ q) || (decide (64 ≤ n) && decide (k = 0))) := by
  unfold manyQ
  rw [hq, hn]
  congr 2
  exact decide_eq_decide.2 (by rw [← hk, countS_zero])
set_option maxHeartbeats 8000000 in
theorem qone_walk (B g : Nat) (line : Int) (F : Option Addr) (fs : List Fld) (c : Nat) (A : Option Addr) (ls : List Req) (cr : Nat) (w : World) (hS : Std w)
    (hsc : Scan w g line F fs.length c 0 none) (hF : FieldsAt B w F fs) (hl : fs.length = 4) (hB : B ≤ g) (hN : 9 ≤ B) (hsz : ∀ k, (textAt fs k).size < 1073741824) (hq : ls.length ≤ 1000000000) (hlz : ∀ x ∈ ls, x.1.size ≤ 9223372036854775807) (hw : At kReq (· < g) w A ls) :
    Calls Tryz.prog 63 #[.pointer (some ⟨g, 0, none⟩), .slice A ls.length cr] w fun e w' => ReqGives g line F fs c ls w e w' := by
  have hgl := hsc.lt
  go_enter Tryz.func63, Tryz.ntmps63
  go_wp2_with fail
  have hb0 : Below w.heap.size w (w.alloc (.cells #[.string ⟨#[]⟩, .string ⟨#[]⟩, .int .i64 0, .slice none 0 0] 53)) := ext_alloc (Below.refl _ _) _
  have r0 : (w.alloc (.cells #[.string ⟨#[]⟩, .string ⟨#[]⟩, .int .i64 0, .slice none 0 0] 53)).cell? ⟨w.heap.size, 0, none⟩ = some (.string ⟨#[]⟩) := by simp
  have r1 : (w.alloc (.cells #[.string ⟨#[]⟩, .string ⟨#[]⟩, .int .i64 0, .slice none 0 0] 53)).cell? ⟨w.heap.size, 1, none⟩ = some (.string ⟨#[]⟩) := by simp
  have r2 : (w.alloc (.cells #[.string ⟨#[]⟩, .string ⟨#[]⟩, .int .i64 0, .slice none 0 0] 53)).cell? ⟨w.heap.size, 2, none⟩ = some (.int .i64 0) := by simp
  have r3 : (w.alloc (.cells #[.string ⟨#[]⟩, .string ⟨#[]⟩, .int .i64 0, .slice none 0 0] 53)).cell? ⟨w.heap.size, 3, none⟩ = some (.slice none 0 0) := by simp
  have f0 : ∀ j, (w.alloc (.cells #[.string ⟨#[]⟩, .string ⟨#[]⟩, .int .i64 0, .slice none 0 0] 53)).frozen? ⟨w.heap.size, j, none⟩ = false := fun j => by simp
  have hS0 := hS.after hb0
  have hsc0 := hsc.later hb0
  have how := Only.later (Only.refl g w) hb0
  have hF0 := hF.below (hb0.mono (by omega) : Below B _ _)
  have hw0 := hw.below (hb0.mono (by omega) : Below g _ _)
  have hz0 : (w.alloc (.cells #[.string ⟨#[]⟩, .string ⟨#[]⟩, .int .i64 0, .slice none 0 0] 53)).heap.size = w.heap.size + 1 := World.size_alloc _ _
  obtain ⟨W0, hW0⟩ : ∃ W0, w.alloc (.cells #[.string ⟨#[]⟩, .string ⟨#[]⟩, .int .i64 0, .slice none 0 0] 53) = W0 := ⟨_, rfl⟩
  rw [hW0] at r0 r1 r2 r3 f0 hS0 hsc0 how hF0 hw0 hz0 ⊢
  obtain ⟨r, hr⟩ : ∃ r, w.heap.size = r := ⟨_, rfl⟩
  rw [hr] at r0 r1 r2 r3 f0 hz0 hgl ⊢
  have hrg : r ≠ g := by omega
  have hrl : r < W0.heap.size := by omega
  have hgW : g < W0.heap.size := by omega
  replace hW0 := hide hW0
  replace hr := hide hr
  replace r0 := hide r0
  replace r1 := hide r1
  replace r2 := hide r2
  replace r3 := hide r3
  replace f0 := hide f0
  clear hsc hF hw hb0 hS
  refine (code_any B g line F fs c 0 none W0 hsc0 hF0 (by omega) (by omega) hB (fun p hp => by cases hp)).mono ?_
  rintro e w1 ⟨k1, t0, pr1, rfl, hs1, ho1, i1, j1, a1, a2⟩
  replace a1 := hide (a1 rfl)
  go_wp2_with fail
  refine (code_any B g line F fs c k1 pr1 w1 hs1 (hF0.only ho1 hB (by omega)) (by omega) (by omega) hB (fun _ _ => i1)).mono ?_
  rintro e w2 ⟨k2, t1, pr2, rfl, hs2, ho2, i2, j2, b1, b2⟩
  replace b1 := hide b1
  replace b2 := hide b2
  replace ho2 : Only g W0 w2 := ho1.trans ho2
  clear hs1 hsc0 ho1 a2
  go_wp2_with fail
  refine (num_anyS B g line F fs c k2 1 pr2 w2 hs2 (hF0.only ho2 hB (by omega)) (by omega) (by omega) hB (fun _ _ => i2) (by decide) (by have := hsz k2; omega)).mono ?_
  rintro e w3 ⟨k3, nn, pr3, rfl, hs3, ho3, i3, j3, c1, c2⟩
  replace c1 := hide c1
  replace c2 := hide c2
  replace ho3 : Only g W0 w3 := ho2.trans ho3
  have hz3 := ho3.size
  have h0z : Hid (t0.size ≤ 9223372036854775807) := hide (by rw [a1.out.2.1]; have := hsz 0; omega)
  clear hs2 ho2
  go_wp2_with fail
  have hb4 : Below w3.heap.size w3 (w3.alloc (.cells #[.string t0, .string t1, .int .i64 (nn : Int), .slice none 0 0] 53)) := ext_alloc (Below.refl _ _) _
  have x0 : (w3.alloc (.cells #[.string t0, .string t1, .int .i64 (nn : Int), .slice none 0 0] 53)).cell? ⟨w3.heap.size, 0, none⟩ = some (.string t0) := by simp
  have x1 : (w3.alloc (.cells #[.string t0, .string t1, .int .i64 (nn : Int), .slice none 0 0] 53)).cell? ⟨w3.heap.size, 1, none⟩ = some (.string t1) := by simp
  have x2 : (w3.alloc (.cells #[.string t0, .string t1, .int .i64 (nn : Int), .slice none 0 0] 53)).cell? ⟨w3.heap.size, 2, none⟩ = some (.int .i64 (nn : Int)) := by simp
  have x3 : (w3.alloc (.cells #[.string t0, .string t1, .int .i64 (nn : Int), .slice none 0 0] 53)).cell? ⟨w3.heap.size, 3, none⟩ = some (.slice none 0 0) := by simp
  have xf : ∀ j, (w3.alloc (.cells #[.string t0, .string t1, .int .i64 (nn : Int), .slice none 0 0] 53)).frozen? ⟨w3.heap.size, j, none⟩ = false := fun j => by simp
  have hz4 : (w3.alloc (.cells #[.string t0, .string t1, .int .i64 (nn : Int), .slice none 0 0] 53)).heap.size = w3.heap.size + 1 := World.size_alloc _ _
  have hs4 := hs3.later hb4
  have ho4 : Only g W0 _ := Only.later ho3 hb4
  obtain ⟨x, hx⟩ : ∃ x, w3.heap.size = x := ⟨_, rfl⟩
  obtain ⟨W4, hW4⟩ : ∃ W4, w3.alloc (.cells #[.string t0, .string t1, .int .i64 (nn : Int), .slice none 0 0] 53) = W4 := ⟨_, rfl⟩
  rw [hW4] at x0 x1 x2 x3 hs4 ho4 hz4 xf ⊢
  rw [hx] at x0 x1 x2 x3 hz4 xf ⊢
  have hxg : x ≠ g := by omega
  have hx4 : x < W4.heap.size := by omega
  have hWx : W0.heap.size ≤ x := by omega
  clear hs3 hb4 ho3 hW4 hx
  refine (list_any B g line F fs c k3 8 pr3 W4 (ho4.std hS0 (by omega)) hs4 (hF0.only ho4 hB (by omega)) (by omega) (by omega) hB hN (fun _ _ => i3) (hsz k3)).mono ?_
  rintro e w5 ⟨k4, l, v, pr4, rfl, hown, hs5, ho5, i4, j4, d1, d2⟩
  replace d1 := hide d1
  replace d2 := hide d2
  have hz5 := ho5.size
  have y0 := (ho5.cell hx4 hxg).trans x0
  have y1 := (ho5.cell hx4 hxg).trans x1
  have y2 := (ho5.cell hx4 hxg).trans x2
  have y3 := (ho5.cell hx4 hxg).trans x3
  have yf3 : w5.frozen? ⟨x, 3, none⟩ = false := (ho5.frozen hx4 hxg).trans (xf 3)
  obtain ⟨A6, c6, rfl⟩ := hown.form
  have z0 : (w5.setCell ⟨x, 3, none⟩ (.slice A6 l.length c6)).cell? ⟨x, 0, none⟩ = some (.string t0) := (World.cell?_setCell_other _ _ _ _ (by simp)).trans y0
  have z1 : (w5.setCell ⟨x, 3, none⟩ (.slice A6 l.length c6)).cell? ⟨x, 1, none⟩ = some (.string t1) := (World.cell?_setCell_other _ _ _ _ (by simp)).trans y1
  have z2 : (w5.setCell ⟨x, 3, none⟩ (.slice A6 l.length c6)).cell? ⟨x, 2, none⟩ = some (.int .i64 (nn : Int)) := (World.cell?_setCell_other _ _ _ _ (by simp)).trans y2
  have z3 : (w5.setCell ⟨x, 3, none⟩ (.slice A6 l.length c6)).cell? ⟨x, 3, none⟩ = some (.slice A6 l.length c6) := World.cell?_setCell_same _ _ _ y3
  have hs6 := scan_set (j := 3) (u := .slice A6 l.length c6) hs5 y0 hxg
  have ho6 : Only g W0 (w5.setCell ⟨x, 3, none⟩ (.slice A6 l.length c6)) := only_setCell (ho4.trans ho5) (Or.inr hWx) _
  have hown6 := hown.noting (only_setCell (Only.refl x w5) (p := ⟨x, 3, none⟩) (Or.inl rfl) (.slice A6 l.length c6)) hx4
  have hF6 := hF0.only ho6 hB (by omega)
  have hw6 := hw0.below (ho6.below (Nat.le_refl _) (by omega))
  obtain ⟨L, hL⟩ : ∃ L, l.length = L := ⟨_, rfl⟩
  obtain ⟨q, hqq⟩ : ∃ q, ls.length = q := ⟨_, rfl⟩
  obtain ⟨nf, hnf⟩ : ∃ nf, (freshS (studs ls)).length = nf := ⟨_, rfl⟩
  obtain ⟨ck, hck⟩ : ∃ ck, countS t0 (studs ls) = ck := ⟨_, rfl⟩
  obtain ⟨M, hMM⟩ : ∃ M, manyQ ls t0 = M := ⟨_, rfl⟩
  have hmany : Hid (M = (decide (400 ≤ q) || (decide (64 ≤ nf) && decide (ck = 0)))) := hide (hMM ▸ many_eq ls t0 q nf ck hqq hnf hck)
  have hhas := hide (fun (W : World) (h : At kReq AnyB W A ls) => qhas_walk A ls cr t0 t1 (nn : Int) A6 L c6 W (by omega) h)
  have hstud := hide (fun (W : World) (h : At kReq AnyB W A ls) => students_walk A ls cr W (by omega) hlz h)
  have hcon := fun (W : World) (h : At kStr AnyB W A6 l) => scontains_walk A6 l c6 t1 W (by have := hown.le; omega) h
  rw [hqq] at hhas hstud ⊢
  have hq9 : q ≤ 1000000000 := by rw [← hqq]; exact hq
  clear hq hlz
  have hcon6 := hcon _ hown6.any'.any
  rw [hL] at z0 z1 z2 z3 hs6 ho6 hown6 hF6 hw6 hcon6 ⊢
  replace hqq := hide hqq
  replace hL := hide hL
  replace hnf := hide hnf
  replace hck := hide hck
  have hzz : g < (w5.setCell ⟨x, 3, none⟩ (.slice A6 L c6)).heap.size := hs6.lt
  obtain ⟨W6, hW6⟩ : ∃ W6, w5.setCell ⟨x, 3, none⟩ (.slice A6 L c6) = W6 := ⟨_, rfl⟩
  have key : Hid (∀ (pr5 prx : Option Prob), noted pr4 (decide (0 ≤ idxS t1 l)) (line, colAt fs k4, 11) = pr5 → noted pr5 (hasQ ls t0 t1) (line, 0, 11) = prx → noted prx M (line, 0, 2) = reqP line fs ls ∧ (reqP line fs ls = none → (t0, t1, (nn : Int), l) = reqOf fs)) := hide fun pr5 prx h1 h2 => by
    rw [← h2, ← hMM]
    exact req_steps a1.out b1.out b2.out c1.out (fun p hp => (c2.out p hp).1) d1.out (fun p hp => (d2.out p hp).1) h1
  obtain ⟨dd, hdd⟩ : ∃ dd, decide (0 ≤ idxS t1 l) = dd := ⟨_, rfl⟩
  rw [hdd] at hcon6 key
  clear hMM hs5 ho5 ho4 hs4 x0 x1 x2 x3 xf hown a1 b1 b2 c1 c2 d1 d2 hdd hcon
  go_upto_region 3 with fail
  rw [hW6] at z0 z1 z2 z3 hs6 ho6 hown6 hF6 hw6 hcon6 hzz
  clear y0 y1 y2 y3 yf3 hW6
  have hx6 := World.block_lt_of_cell? _ _ z0
  have hz6 := ho6.size
  go_wp2_with fail
  refine hcon6.mono ?_
  rintro e w7 ⟨rfl, rfl⟩
  clear hcon6
  obtain ⟨pr5, hpr5⟩ : ∃ pr5, noted pr4 dd (line, colAt fs k4, 11) = pr5 := ⟨_, rfl⟩
  cases dd
  rotate_left
  go_wp2_with fail
  refine (fail_walk B g line F fs c k4 pr4 11 W6 hs6 hF6 i4 (by omega) (by omega)).mono ?_
  rintro e w7 ⟨rfl, hs7, ho7⟩
  replace z0 := (ho7.cell hx6 hxg).trans z0
  replace z1 := (ho7.cell hx6 hxg).trans z1
  replace z2 := (ho7.cell hx6 hxg).trans z2
  replace z3 := (ho7.cell hx6 hxg).trans z3
  replace hw6 := hw6.below (ho7.below (Nat.le_refl _) (by omega))
  replace hown6 := hown6.noting ho7 (by omega)
  replace ho6 : Only g W0 w7 := ho6.trans ho7
  rw [show noted pr4 (decide ((11 : Int) ≠ 0)) (line, colAt fs k4, 11) = pr5 from hpr5] at hs7
  clear hs6 hF6 ho7 hzz
  replace hpr5 := hide hpr5
  go_wp2_with fail
  rotate_left
  obtain ⟨w7, hw7⟩ : ∃ w7, W6 = w7 := ⟨_, rfl⟩
  subst hw7
  have hs7 := hs6
  rw [show pr4 = pr5 from by rw [← hpr5]; cases pr4 <;> rfl] at hs7
  replace hpr5 := hide hpr5
  clear hs6 hF6 hzz
  go_wp2_with fail
  all_goals
    refine (hstud.out _ hw6.any).mono ?_
    rintro e w8 ⟨mb, rfl, -, hcn, hb8⟩
    have hs8 := hs7.later hb8
    have ho8 : Only g W0 w8 := ho6.later hb8
    have hx7 := World.block_lt_of_cell? _ _ z0
    have hg7 := hs7.lt
    replace z0 := cell_later hb8 z0
    replace z1 := cell_later hb8 z1
    replace z2 := cell_later hb8 z2
    replace z3 := cell_later hb8 z3
    replace hown6 := hown6.later hb8
    have hw8 := hw6.below (hb8.mono (by omega) : Below g _ _)
    have hx8 := World.block_lt_of_cell? _ _ z0
    have hlen := fun ty => cnt_len hcn ty
    rw [hnf.out] at hlen
    have hlk := cnt_look hcn t0 h0z.out
    rw [hck.out] at hlk
    clear hs7 ho6 hw6 hb8 hcn hx6 hz6 hx7 hg7
    go_upto_region 6 with fail
    go_cut [7] (fun s7 V => s7 = .bool M ∧ w8 = V)
    case first =>
      clear hs8 ho8 hown6 hw8
      by_cases g1 : 400 ≤ q
      · have g1i : (400 : Int) ≤ (q : Int) := by omega
        have hM : M = true := by rw [hmany.out, decide_eq_true g1]; rfl
        go_wp2_with fail
        go_meet
        exact ⟨by rw [hM], rfl⟩
      · have g1i : ¬ (400 : Int) ≤ (q : Int) := by omega
        by_cases g2 : 64 ≤ nf
        · have g2i : (64 : Int) ≤ (nf : Int) := by omega
          by_cases g3 : ck = 0
          · have g3i : ((ck : Int) == 0) = true := by simp; omega
            have hM : M = true := by rw [hmany.out, decide_eq_false g1, decide_eq_true g2, decide_eq_true g3]; rfl
            go_wp2_with fail
            go_meet
            exact ⟨by rw [hM], rfl⟩
          · have g3i : ((ck : Int) == 0) = false := by simp; omega
            have hM : M = false := by rw [hmany.out, decide_eq_false g1, decide_eq_false g3]; simp
            go_wp2_with fail
            go_meet
            exact ⟨by rw [hM], rfl⟩
        · have g2i : ¬ (64 : Int) ≤ (nf : Int) := by omega
          have hM : M = false := by rw [hmany.out, decide_eq_false g1, decide_eq_false g2]; rfl
          go_wp2_with fail
          go_meet
          exact ⟨by rw [hM], rfl⟩
    case rest =>
      obtain ⟨rfl, rfl⟩ := hcut
      clear hlen hlk
      go_wp2_with fail
      refine (hhas.out _ hw8.any).mono ?_
      rintro e w9 ⟨rfl, hb9⟩
      have hs9 := hs8.later hb9
      have ho9 : Only g W0 w9 := ho8.later hb9
      replace z0 := cell_later hb9 z0
      replace z1 := cell_later hb9 z1
      replace z2 := cell_later hb9 z2
      replace z3 := cell_later hb9 z3
      replace hown6 := hown6.later hb9
      have hx9 := World.block_lt_of_cell? _ _ z0
      clear hs8 ho8 hw8 hb9 hx8
      go_wp2_with fail
      refine (whole_walk g line F fs.length c k4 pr5 _ 11 w9 hs9).mono ?_
      rintro e w10 ⟨rfl, hs10, ho10⟩
      replace z0 := (ho10.cell hx9 hxg).trans z0
      replace z1 := (ho10.cell hx9 hxg).trans z1
      replace z2 := (ho10.cell hx9 hxg).trans z2
      replace z3 := (ho10.cell hx9 hxg).trans z3
      replace hown6 := hown6.noting ho10 (by omega)
      replace ho9 : Only g W0 w10 := ho9.trans ho10
      obtain ⟨prx, hprx⟩ : ∃ prx, noted pr5 (hasQ ls t0 t1) (line, 0, 11) = prx := ⟨_, rfl⟩
      rw [hprx] at hs10
      have hkey := hide (key.out pr5 prx hpr5.out hprx)
      clear hs9 ho10 hx9 hprx
      go_wp2_with fail
      refine (whole_walk g line F fs.length c k4 prx _ 2 w10 hs10).mono ?_
      rintro e w11 ⟨rfl, hs11, ho11⟩
      have hx10 := World.block_lt_of_cell? _ _ z0
      replace z0 := (ho11.cell hx10 hxg).trans z0
      replace z1 := (ho11.cell hx10 hxg).trans z1
      replace z2 := (ho11.cell hx10 hxg).trans z2
      replace z3 := (ho11.cell hx10 hxg).trans z3
      replace hown6 := hown6.noting ho11 (by omega)
      replace ho9 : Only g W0 w11 := ho9.trans ho11
      rw [hkey.out.1] at hs11
      have hfin := hide hkey.out.2
      have rr0 := (ho9.cell hrl hrg).trans r0.out
      have rr1 := (ho9.cell hrl hrg).trans r1.out
      have rr2 := (ho9.cell hrl hrg).trans r2.out
      have rr3 := (ho9.cell hrl hrg).trans r3.out
      have g0 := (ho9.frozen hrl hrg).trans (f0.out 0)
      have g1 := (ho9.frozen hrl hrg).trans (f0.out 1)
      have g2 := (ho9.frozen hrl hrg).trans (f0.out 2)
      have g3 := (ho9.frozen hrl hrg).trans (f0.out 3)
      replace hs11 := hide hs11
      replace ho9 := hide ho9
      clear hs10 ho11 hkey hx10 key hpr5 hmany hhas hstud
      go_wp2
      obtain ⟨d0, d1, d2, d3⟩ := set4q_cells (a := .string t0) (b := .string t1) (c := .int .i64 (nn : Int)) (d := .slice A6 L c6) rr0 rr1 rr2 rr3
      have hro : Only r w11 (set4q w11 r (.string t0) (.string t1) (.int .i64 (nn : Int)) (.slice A6 L c6)) := set4q_only (Only.refl r w11) (Or.inl rfl)
      have hbz : w.heap.size = r := hr.out
      refine end_req rfl r (.string t0) (.string t1) (.int .i64 (nn : Int)) (.slice A6 L c6) rfl rfl d0 d1 d2 d3 ⟨t0, t1, nn, l, _, k4, rfl, ?_, set4q_scan hs11.out rr0 hrg, hfin.out, ?_⟩
      · exact Own.lower (hown6.noting hro (by omega)) (by omega)
      · exact set4q_only (how.trans ho9.out) (Or.inr (Nat.le_of_eq hbz))
end Go.Proofs.YthejgholpkeldaaGreatDoor

namespace Go.Proofs.YthejgholpkeldaaGreatDoor
open Go.RowKit
set_option maxRecDepth 100000

theorem apart_req : TyApart 53 [9] := ⟨by decide, by decide, by decide, by decide, by decide, by decide, by decide⟩
/-- What is read is no longer than the fields. -/
theorem readReq_short (rs : List Rec) (hs : ∀ r ∈ rs, ∀ f ∈ r.2, f.1.size < 1073741824) : ∀ x ∈ (readReq rs).ls, x.1.size ≤ 9223372036854775807 := by
  induction rs using snoc_ind with
  | h0 => intro x hx; simp [readReq, readAll] at hx
  | h1 rs r ih =>
    obtain ⟨line, fs⟩ := r
    have ih := ih fun r hr => hs r (List.mem_append_left _ hr)
    have hst : readReq (rs ++ [(line, fs)]) = gathStep 4 reqP reqOf (readReq rs) (line, fs) := by simp [readReq, readAll, List.foldl_append]
    rw [hst]
    unfold gathStep
    dsimp only
    split
    · split
      · exact ih
      · intro x hx
        rcases List.mem_append.1 hx with hx | hx
        · exact ih x hx
        · simp at hx
          subst hx
          have : (textAt fs 0).size < 1073741824 := by
            unfold textAt
            rw [List.getD_eq_getElem?_getD]
            cases hk : fs[0]? with
            | none => decide
            | some f => exact hs (line, fs) (by simp) _ (List.mem_of_getElem? hk)
          show (textAt fs 0).size ≤ _
          omega
    · exact ih
abbrev GQ (w0 : World) (u6 u7 u8 : Value) (ls : List Req) (lines : List Int) (ps : List Prob) (W : World) : Prop := GG kReq 53 [9] w0 u6 u7 u8 ls lines ps W
def ReadQGives (rs : List Rec) (w : World) (e : Ending) (w' : World) : Prop :=
  ∃ v6 v7 v8, e = .returned (.tuple #[v6, v7, v8]) ∧ GQ w v6 v7 v8 (readReq rs).ls (readReq rs).lines (readReq rs).ps w'
def ReadQLoop (rs : List Rec) (w : World) (v6 v7 v8 i : Value) (wr : World) : Prop :=
  ∃ j : Nat, j ≤ rs.length ∧ i = .int .i64 j ∧ GQ w v6 v7 v8 (readReq (rs.take j)).ls (readReq (rs.take j)).lines (readReq (rs.take j)).ps wr
set_option maxHeartbeats 8000000 in
theorem qread_walk (A : Option Addr) (rs : List Rec) (cap : Nat) (w : World) (hS : Std w) (hR : RecsAt w.heap.size w A rs) (hN : rs.length ≤ 4000000000000) (hs : ∀ r ∈ rs, ∀ f ∈ r.2, f.1.size < 1073741824) :
    Calls Tryz.prog 62 #[.slice A rs.length cap, .int .i64 4, .func (.func 63) #[] #[]] w fun e w' => ReadQGives rs w e w' := by
  have eg : ∀ args w, (callFunc 63 args).run Tryz.prog w = .ok (.enter 63 args) w := enters_of Tryz.func63 (by kernel_rfl) rfl
  obtain ⟨iP, hiP, hP0, hP1, hP2⟩ := info_parts infoProb
  obtain ⟨N, hNN⟩ : ∃ N, rs.length = N := ⟨_, rfl⟩
  have hbig := hS.big
  rw [hNN] at hN ⊢
  replace hNN := hide hNN
  replace hs := hide hs
  go_enter Tryz.func62, Tryz.ntmps62
  go_wp2
  go_loopw [6, 7, 8, 15] (fun v6 v7 v8 i wr => ReadQLoop rs w v6 v7 v8 i wr) (fun _ _ _ i _ => N - (intOf i).toNat)
  case atStart => exact ⟨0, Nat.zero_le _, rfl, Own.nil, Own.nil, World.ownsRow_nil _ _ _ _, Below.refl _ _⟩
  case round =>
    obtain ⟨j, hj, rfl, hG⟩ := hrel
    rw [hNN.out] at hj
    by_cases hlt : j < N
    · obtain ⟨r, hr⟩ : ∃ r, rs[j]? = some r := ⟨_, List.getElem?_eq_getElem (by rw [hNN.out]; exact hlt)⟩
      obtain ⟨rb, off, rfl, hrb, hcell⟩ := (hR.below hG.below) (by rw [hNN.out]; omega)
      obtain ⟨F, c, k0, k1, hF⟩ := hcell j r hr
      have hsr := hide (hs.out r (List.mem_of_getElem? hr))
      have hstep := hide (readAll_take (n := 4) (P := reqP) (f := reqOf) rs j r hr)
      obtain ⟨st, hst⟩ : ∃ st, readAll 4 reqP reqOf (rs.take j) = st := ⟨_, rfl⟩
      have hlen := readReq_len (rs.take j)
      have hshort := hide (readReq_short (rs.take j) (fun r hr => hs.out r (List.mem_of_mem_take hr)))
      rw [List.length_take, hNN.out] at hlen
      unfold readReq at hG hlen hshort
      rw [hst] at hG hlen hstep hshort
      obtain ⟨n1, n2, n3⟩ := hlen
      obtain ⟨line, fs⟩ := r
      dsimp only at k0 k1 hF hsr
      have hz := hG.below.size
      have hrb2 : rb < wr.heap.size := by omega
      have h3N : st.ps.length ≤ 4000000000000 := by omega
      have hSr := hS.after hG.below
      clear hcell hr hst hR n3
      replace n2 := hide n2
      obtain ⟨g, hg⟩ : ∃ g, wr.heap.size + 1 = g := ⟨_, rfl⟩
      have hsc0 : Scan ((wr.alloc (.cells #[.int .i64 line, .slice F fs.length c] 75)).alloc (.cells #[.int .i64 line, .slice F fs.length c, .int .i64 0, .pointer none] 129)) g line F fs.length c 0 none :=
        ⟨.pointer none, by rw [← hg]; exact heap_new2 _ _ _, rfl⟩
      have hb1 : Below wr.heap.size wr ((wr.alloc (.cells #[.int .i64 line, .slice F fs.length c] 75)).alloc (.cells #[.int .i64 line, .slice F fs.length c, .int .i64 0, .pointer none] 129)) := (by repeat (first | exact Below.refl _ _ | refine ext_alloc ?_ _ | refine ext_drewN ?_ _ | refine ext_drew ?_ | refine ext_trans ?_ (by assumption)))
      have q0 : ((wr.alloc (.cells #[.int .i64 line, .slice F fs.length c] 75)).alloc (.cells #[.int .i64 line, .slice F fs.length c, .int .i64 0, .pointer none] 129)).cell? ⟨wr.heap.size, 0, none⟩ = some (.int .i64 line) := by simp
      have hgw : wr.heap.size < g := by omega
      replace hg := hide hg
      obtain ⟨A6, c6, rfl⟩ := hG.ls.form
      have hu6 : Hid (∀ y, (Value.slice A6 st.ls.length c6).ownBlock = some y → y < wr.heap.size) := hide fun y e => (hG.ls.lt y e).2
      have hu7 : Hid (∀ y, u7.ownBlock = some y → y < wr.heap.size) := hide fun y e => (hG.ins.lt y e).2
      have hat := hG.ls.any'
      by_cases hm : fs.length = 4
      · have hm2 : ((fs.length : Int) != 4) = false := by simp; omega
        have h1s : ∀ k, (textAt fs k).size < 1073741824 := by
          intro k
          unfold textAt
          rw [List.getD_eq_getElem?_getD]
          cases hk : fs[k]? with
          | none => decide
          | some f => exact hsr.out _ (List.mem_of_getElem? hk)
        rw [show gathStep 4 reqP reqOf st (line, fs) = (match reqP line fs st.ls with | some p => ⟨st.ls, st.lines, st.ps ++ [p]⟩ | none => ⟨st.ls ++ [reqOf fs], st.lines ++ [line], st.ps⟩) from if_pos hm] at hstep
        replace hm := hide hm
        go_wp2_with fail
        rw [hg.out]
        refine (whole_walk g line F fs.length c 0 none false 9 _ hsc0).mono ?_
        rintro e w2 ⟨rfl, hs2, ho2⟩
        have hs2 : Scan w2 g line F fs.length c 0 none := hs2
        have c3 := scan_none hs2
        have hb2 : Below wr.heap.size wr w2 := hb1.trans (Only.below ho2 (by omega) hb1.size)
        have q2 := (ho2.cell (by rw [World.size_alloc, World.size_alloc]; omega) (by omega)).trans q0
        have hG2 := hG.later hb2
        have hS2 := hSr.after hb2
        have v1 : g < w2.heap.size := World.block_lt_of_cell? _ _ c3
        have v0 : wr.heap.size < w2.heap.size := World.block_lt_of_cell? _ _ q2
        have hF2 : FieldsAt w.heap.size w2 F fs := hF.below (hb2.mono hz)
        have hat2 : At kReq (· < g) w2 A6 st.ls := (hat.below hb2).up (by omega)
        have hbx : Below w2.heap.size w2 (w2.alloc (.cells #[.string ⟨#[]⟩, .string ⟨#[]⟩, .int .i64 0, .slice none 0 0] 53)) := ext_alloc (Below.refl _ _) _
        have hsx := hs2.later hbx
        have hFx := hF2.below (hbx.mono (by omega) : Below w.heap.size _ _)
        have hax := hat2.below (hbx.mono (by omega) : Below g _ _)
        have hcall := hide (qone_walk w.heap.size g line F fs c A6 st.ls c6 _ (hS2.after hbx) hsx hFx hm.out (by omega) hbig h1s (by omega) hshort.out hax)
        clear hsc0 hb1 q0 ho2 hG hb2 hF hat hat2 hF2 hsx hFx hax hSr hS2
        go_upto_region 9 with (go_at_fn 63; refine hcall.out.mono ?_; rintro e w3 ⟨a0, a1, nn, l9, v9, k, rfl, hown3, hs3, hP3, ho3⟩; obtain ⟨A9, c9, rfl⟩ := hown3.form; have x0 : w3.cell? ⟨w2.heap.size, 0, none⟩ = some (.string ⟨#[]⟩) := (ho3.cell (by simp) (by omega)).trans (by simp); have x1 : w3.cell? ⟨w2.heap.size, 1, none⟩ = some (.string ⟨#[]⟩) := (ho3.cell (by simp) (by omega)).trans (by simp); have x2 : w3.cell? ⟨w2.heap.size, 2, none⟩ = some (.int .i64 0) := (ho3.cell (by simp) (by omega)).trans (by simp); have x3 : w3.cell? ⟨w2.heap.size, 3, none⟩ = some (.slice none 0 0) := (ho3.cell (by simp) (by omega)).trans (by simp); have xf0 : w3.frozen? ⟨w2.heap.size, 0, none⟩ = false := (ho3.frozen (by simp) (by omega)).trans (by simp); have xf1 : w3.frozen? ⟨w2.heap.size, 1, none⟩ = false := (ho3.frozen (by simp) (by omega)).trans (by simp); have xf2 : w3.frozen? ⟨w2.heap.size, 2, none⟩ = false := (ho3.frozen (by simp) (by omega)).trans (by simp); have xf3 : w3.frozen? ⟨w2.heap.size, 3, none⟩ = false := (ho3.frozen (by simp) (by omega)).trans (by simp))
        have hgx : w2.heap.size ≠ g := by omega
        obtain ⟨y0, y1, y2, y3⟩ := set4q_cells (a := .string a0) (b := .string a1) (c := .int .i64 (nn : Int)) (d := .slice A9 l9.length c9) x0 x1 x2 x3
        have hs4 := set4q_scan (z := a0) (b2 := .string a1) (c2 := .int .i64 (nn : Int)) (d2 := .slice A9 l9.length c9) hs3 x0 hgx
        have ho4 : Only g w2 (set4q w3 w2.heap.size (.string a0) (.string a1) (.int .i64 (nn : Int)) (.slice A9 l9.length c9)) := set4q_only ((Only.later (Only.refl g w2) (ext_alloc (Below.refl _ _) _)).trans ho3) (Or.inr (Nat.le_refl _))
        have hxo : Only w2.heap.size w3 (set4q w3 w2.heap.size (.string a0) (.string a1) (.int .i64 (nn : Int)) (.slice A9 l9.length c9)) := set4q_only (Only.refl _ w3) (Or.inl rfl)
        have hown4 : Own kStr 9 [] 0 w.heap.size _ (.slice A9 l9.length c9) l9 := Own.lower (C := w.heap.size) (hown3.noting hxo (by rw [World.size_alloc]; omega)) (by rw [World.size_alloc]; omega)
        obtain ⟨U, hU⟩ : ∃ U, set4q w3 w2.heap.size (.string a0) (.string a1) (.int .i64 (nn : Int)) (.slice A9 l9.length c9) = U := ⟨_, rfl⟩
        rw [hU] at y0 y1 y2 y3 hs4 ho4 hown4
        unfold set4q at hU
        have hG4 := hG2.scan apart_req hs2 ho4 (by omega)
        have q4 := (ho4.cell v0 (by omega)).trans q2
        rw [hU]
        have hzU : w.heap.size ≤ U.heap.size := hG4.below.size
        clear hU x0 x1 x2 x3 xf0 xf1 xf2 xf3 hs3 ho3 ho4 hxo hG2 hs2 c3 q2 eg hcall hbx hown3
        cases hsp : reqP line fs st.ls with
        | some p =>
          rw [hsp] at hs4 hstep
          obtain ⟨line', col, er⟩ := p
          obtain ⟨h, c3, p0, p1, p2, p3⟩ := scan_some hs4
          dsimp only at p0 p1 p2 p3 hstep
          clear hsp hs4 y0 y1 y2 y3 q4 hP3 hown4
          have v1 : g < U.heap.size := World.block_lt_of_cell? _ _ c3
          have v2 : h < U.heap.size := World.block_lt_of_cell? _ _ p0
          go_wp2_with (at_builtin; refine wpList_append_own _ rfl _ _ 47 rfl w.heap.size 102 iP (.agg #[.int .i64 0, .int .i64 0, .int .i64 0, .int .i64 0]) 4 32 Tryz.underlying47 hiP hP0 hP1 hP2 rfl (by decide) _ _ _ rfl (hG4.alloc _).ps ⟨U.heap.size, 0, none⟩ 1 1 (encP (line', col, er)) rfl rfl (new_prob _ _ _ _ _) (one_prob _) ?c3 ?c4 ?c5 ?_)
          case c3 => unfold maxLen; omega
          case c4 => omega
          case c5 => rw [World.size_alloc]; omega
          intro v' w4 hPn hgrow _
          have hGn := (hG4.alloc _).prob (p := (line', col, er)) apart_req hgrow hPn
          clear hG4 c3 p0 p1 p2 p3 hPn hgrow
          go_wp2
          go_roundw
          case rel => exact ⟨j + 1, by rw [hNN.out]; omega, by go_num, by unfold readReq; rw [hstep.out]; exact hGn⟩
          case measure => simp [intOf]; omega
        | none =>
          rw [hsp] at hs4 hstep
          have hcur := hP3 hsp
          have c3 := scan_none hs4
          have v1 : g < U.heap.size := World.block_lt_of_cell? _ _ c3
          have v2 : w2.heap.size < U.heap.size := World.block_lt_of_cell? _ _ y0
          have v3 : wr.heap.size < U.heap.size := World.block_lt_of_cell? _ _ q4
          dsimp only at hstep
          rw [← hcur] at hstep
          have n32 : st.lines.length ≤ 100000 := by rw [n2.out]; omega
          have n31 : st.ls.length ≤ 100000 := by omega
          have hn6 : Hid (∀ k, wr.heap.size ≤ k → some k ≠ (Value.slice A6 st.ls.length c6).ownBlock) := hide fun k hk e => by have := hu6.out k e.symm; omega
          have hn7 : Hid (∀ k, wr.heap.size ≤ k → some k ≠ u7.ownBlock) := hide fun k hk e => by have := hu7.out k e.symm; omega
          have e1 := hide (hn6.out w2.heap.size (by omega))
          have e2 := hide (hn6.out wr.heap.size (Nat.le_refl _))
          have e3 := hide (hn7.out w2.heap.size (by omega))
          have e4 := hide (hn7.out wr.heap.size (Nat.le_refl _))
          clear hsp hs4 hcur hP3
          go_upto_region 11 with fail
          clear c3
          have hGd := hG4.drew
          have hSd : Cn5 w2.heap.size 0 ((.string a0)) w2.heap.size 1 ((.string a1)) w2.heap.size 2 ((.int .i64 (nn : Int))) w2.heap.size 3 ((.slice A9 l9.length c9)) wr.heap.size 0 ((.int .i64 line)) U.drew := ⟨y0, y1, y2, y3, q4⟩
          have hS0 : Cn5 w2.heap.size 0 ((.string a0)) w2.heap.size 1 ((.string a1)) w2.heap.size 2 ((.int .i64 (nn : Int))) w2.heap.size 3 ((.slice A9 l9.length c9)) wr.heap.size 0 ((.int .i64 line)) U := ⟨y0, y1, y2, y3, q4⟩
          have hownd := hown4.drew
          clear y0 y1 y2 y3 q4
          go_region_held3 (fun W' => W'.cell? ⟨w2.heap.size, 0, none⟩ = some ((.string a0)) ∧ W'.cell? ⟨w2.heap.size, 1, none⟩ = some ((.string a1)) ∧ W'.cell? ⟨w2.heap.size, 2, none⟩ = some ((.int .i64 (nn : Int))) ∧ W'.cell? ⟨w2.heap.size, 3, none⟩ = some ((.slice A9 l9.length c9)) ∧ W'.cell? ⟨wr.heap.size, 0, none⟩ = some ((.int .i64 line))) (first | ((repeat (first | (with_reducible assumption) | (with_reducible refine Cn5.alloc ?_ _) | (with_reducible refine Cn5.drew ?_) | (with_reducible refine Cn5.set ?_ ?_ ?_ ?_ ?_ ?_ _) | omega)); done)) (first | (refine stepg_ls (S := Cn5 w2.heap.size 0 ((.string a0)) w2.heap.size 1 ((.string a1)) w2.heap.size 2 ((.int .i64 (nn : Int))) w2.heap.size 3 ((.slice A9 l9.length c9)) wr.heap.size 0 ((.int .i64 line))) (K := kReq) (t := 53) (ts := [9]) (t2 := 27) (bytes := 64) (w0 := w) (u6 := .slice A6 st.ls.length c6) (u7 := u7) (u8 := u8) (ls := st.ls) (lines := st.lines) (ps := st.ps) apart_req apd_reqs (by decide) (by decide) rfl (.tmp 52) (.tmp 54) rfl (by rfl) (by repeat (first | (with_reducible assumption) | (with_reducible refine GG.alloc ?_ _) | (with_reducible refine GG.drew ?_))) n31 _ _ (by rfl) (a0, a1, (nn : Int), l9) [.string a0, .string a1, .int .i64 (nn : Int), .slice A9 l9.length c9] (req_rep (Own.rep (by repeat (first | (with_reducible assumption) | (with_reducible refine Own.alloc ?_ _) | (with_reducible refine Own.drew ?_))))) (World.news_of_block (cs := #[.string a0, .string a1, .int .i64 (nn : Int), .slice A9 l9.length c9]) (t := 53) (fr := (0, 0)) (by first | exact heap_alloc_new _ _ | exact heap_new2 _ _ _ | exact (Below.heap_alloc _ _ _ (by first | (simp; done) | (simp; omega))).trans (heap_alloc_new _ _))) (fun W' hg => Cn5.grown (by repeat (first | (with_reducible assumption) | (with_reducible refine Cn5.alloc ?_ _) | (with_reducible refine Cn5.drew ?_))) hg e1.out e1.out e1.out e1.out e2.out) ?_; intro gA capA w4 hg2 hgrow hs4) | (refine stepg_ins (S := Cn5 w2.heap.size 0 ((.string a0)) w2.heap.size 1 ((.string a1)) w2.heap.size 2 ((.int .i64 (nn : Int))) w2.heap.size 3 ((.slice A9 l9.length c9)) wr.heap.size 0 ((.int .i64 line))) (K := kReq) (t := 53) (ts := [9]) (w0 := w) (u6 := .slice (some ⟨gA, 0, none⟩) (st.ls.length + 1) capA) (u7 := u7) (u8 := u8) (ls := st.ls ++ [(a0, a1, (nn : Int), l9)]) (lines := st.lines) (ps := st.ps) apart_req rfl (.tmp 56) (.tmp 59) rfl (by rfl) (by repeat (first | (with_reducible assumption) | (with_reducible refine GG.alloc ?_ _) | (with_reducible refine GG.drew ?_))) n32 _ _ (by rfl) line (World.news_of_block (cs := #[.int .i64 line]) (t := 3) (fr := (0, 0)) (by first | exact heap_alloc_new _ _ | exact heap_new2 _ _ _ | exact (Below.heap_alloc _ _ _ (by first | (simp; done) | (simp; omega))).trans (heap_alloc_new _ _) | exact (hgrow.block _ (by first | (simp; done) | (simp; omega)) (hn6.out _ (by first | omega | (simp; done) | (simp; omega)))).trans (by first | exact heap_alloc_new _ _ | exact heap_new2 _ _ _ | exact (Below.heap_alloc _ _ _ (by first | (simp; done) | (simp; omega))).trans (heap_alloc_new _ _)))) (fun W' hg => Cn5.grown (by repeat (first | (with_reducible assumption) | (with_reducible refine Cn5.alloc ?_ _) | (with_reducible refine Cn5.drew ?_))) hg e3.out e3.out e3.out e3.out e4.out) ?_; intro gB capB w5 hg3 hgrow3 hs5))
          all_goals
            clear hGd hSd hS0 hG4 hown4 hownd
            go_wp2
            go_roundw
            case rel => exact ⟨j + 1, by rw [hNN.out]; omega, by go_num, by unfold readReq; rw [hstep.out]; exact hg3⟩
            case measure => simp [intOf]; omega
      · have hm2 : ((fs.length : Int) != 4) = true := by simp; omega
        rw [show gathStep 4 reqP reqOf st (line, fs) = ⟨st.ls, st.lines, st.ps ++ [(line, 0, 9)]⟩ from if_neg hm] at hstep
        replace hm := hide hm
        clear hat hSr
        go_wp2_with fail
        rw [hg.out]
        refine (whole_walk g line F fs.length c 0 none true 9 _ hsc0).mono ?_
        rintro e w2 ⟨rfl, hs2, ho2⟩
        obtain ⟨h, c3, p0, p1, p2, p3⟩ := scan_some hs2
        have hb2 : Below wr.heap.size wr w2 := hb1.trans (Only.below ho2 (by omega) hb1.size)
        have hG2 := hG.later hb2
        clear hsc0 hb1 q0 hs2 ho2 hG
        dsimp only at p0 p1 p2 p3
        have v1 := World.block_lt_of_cell? _ _ c3
        have v2 := World.block_lt_of_cell? _ _ p0
        have hz2 := hG2.below.size
        go_wp2_with (at_builtin; refine wpList_append_own _ rfl _ _ 47 rfl w.heap.size 102 iP (.agg #[.int .i64 0, .int .i64 0, .int .i64 0, .int .i64 0]) 4 32 Tryz.underlying47 hiP hP0 hP1 hP2 rfl (by decide) _ _ _ rfl ((hG2.alloc _).alloc _).ps ⟨w2.heap.size + 1, 0, none⟩ 1 1 (encP (line, 0, 9)) rfl rfl ?c0 (one_prob _) ?c3 ?c4 ?c5 ?_)
        case c0 => exact new_prob2 _ _ _ _ _ _
        case c3 => unfold maxLen; omega
        case c4 => omega
        case c5 => rw [World.size_alloc, World.size_alloc]; omega
        intro v' w4 hPn hgrow _
        have hGn := ((hG2.alloc _).alloc _).prob (p := (line, 0, 9)) apart_req hgrow hPn
        clear hG2 c3 p0 p1 p2 p3 hb2 hPn hgrow
        go_wp2
        go_roundw
        case rel => exact ⟨j + 1, by rw [hNN.out]; omega, by go_num, by unfold readReq; rw [hstep.out]; exact hGn⟩
        case measure => simp [intOf]; omega
    · obtain rfl : j = N := by omega
      have hall : Hid (rs.take j = rs) := hide (by rw [← hNN.out]; exact List.take_length)
      rw [hall.out] at hG
      clear hall
      go_wp2
      go_ret3
      exact ⟨_, _, _, rfl, hG⟩
theorem qlines_walk (A : Option Addr) (rs : List Rec) (cap : Nat) (w : World) (hS : Std w) (hR : RecsAt w.heap.size w A rs) (hN : rs.length ≤ 4000000000000) (hs : ∀ r ∈ rs, ∀ f ∈ r.2, f.1.size < 1073741824) :
    Calls Tryz.prog 40 #[.slice A rs.length cap] w fun e w' => ReadQGives rs w e w' := by
  have hcall := qread_walk A rs cap w hS hR hN hs
  clear hR hN hs hS
  obtain ⟨N, hNN⟩ : ∃ N, rs.length = N := ⟨_, rfl⟩
  rw [hNN] at hcall ⊢
  clear hNN
  go_enter Tryz.func40, Tryz.ntmps40
  go_wp2_with fail
  refine hcall.mono ?_
  clear hcall
  rintro e w' ⟨v6, v7, v8, rfl, hG⟩
  go_wp2
  go_ret3
  exact ⟨_, _, _, rfl, hG⟩
def ReqReads (rs : List Rec) (w : World) (e : Ending) (w' : World) : Prop :=
  ∃ v6 v8, e = .returned (.tuple #[v6, v8]) ∧ Own kReq 53 [9] 0 w.heap.size w' v6 (readReq rs).ls ∧ ProbsOwn w.heap.size w' v8 (readReq rs).ps ∧ Below w.heap.size w w'
theorem qRead_walk (A : Option Addr) (rs : List Rec) (cap : Nat) (w : World) (hS : Std w) (hR : RecsAt w.heap.size w A rs) (hN : rs.length ≤ 4000000000000) (hs : ∀ r ∈ rs, ∀ f ∈ r.2, f.1.size < 1073741824) :
    Calls Tryz.prog 19 #[.slice A rs.length cap] w fun e w' => ReqReads rs w e w' := by
  have hcall := qlines_walk A rs cap w hS hR hN hs
  clear hR hN hs hS
  obtain ⟨N, hNN⟩ : ∃ N, rs.length = N := ⟨_, rfl⟩
  rw [hNN] at hcall ⊢
  clear hNN
  go_enter Tryz.func19, Tryz.ntmps19
  go_wp2_with fail
  refine hcall.mono ?_
  clear hcall
  rintro e w' ⟨v6, v7, v8, rfl, hG⟩
  go_wp2
  go_ret2
  exact ⟨_, _, rfl, hG.ls, hG.ps, hG.below⟩
end Go.Proofs.YthejgholpkeldaaGreatDoor

namespace Go.Proofs.YthejgholpkeldaaGreatDoor
open Go.RowKit
set_option maxRecDepth 100000

theorem textC_at {fs : List Fld} {k : Nat} (h : k < fs.length) : (fs[k]'h).1 = textAt fs k := by
  unfold textAt; rw [List.getD_eq_getElem?_getD, List.getElem?_eq_getElem h]; rfl
theorem heap3c (w : World) (o1 o2 o3 : Obj) : (((w.alloc o1).alloc o2).alloc o3).heap[w.heap.size]? = some o1 ∧ (((w.alloc o1).alloc o2).alloc o3).heap[w.heap.size + 1]? = some o2 ∧ (((w.alloc o1).alloc o2).alloc o3).heap[w.heap.size + 2]? = some o3 := by
  have s1 : (w.alloc o1).heap.size = w.heap.size + 1 := World.size_alloc _ _
  have s2 : ((w.alloc o1).alloc o2).heap.size = w.heap.size + 2 := by rw [World.size_alloc, s1]
  refine ⟨?_, ?_, heap_new3 _ _ _ _⟩
  · rw [Below.heap_alloc _ _ _ (by omega), Below.heap_alloc _ _ _ (by omega)]; exact heap_alloc_new _ _
  · rw [Below.heap_alloc _ _ _ (by omega)]; exact heap_new2 _ _ _
end Go.Proofs.YthejgholpkeldaaGreatDoor

namespace Go.Proofs.YthejgholpkeldaaGreatDoor
open Go.RowKit
set_option maxRecDepth 100000

set_option maxHeartbeats 8000000 in
theorem r12Same_walk (A A' : Option Addr) (l : List Req) (c c' : Nat) (w : World) (hn : l.length ≤ 9223372036854775807) (hm : ∀ x ∈ l, x.2.2.2.length ≤ 9223372036854775807) (h1 : At kReq AnyB w A l) (h2 : At kReq AnyB w A' l) :
    Calls Tryz.prog 23 #[.slice A l.length c, .slice A' l.length c'] w fun e w' => e = .returned (.bool true) ∧ Below w.heap.size w w' := by
  obtain ⟨n, hnn⟩ : ∃ n, l.length = n := ⟨_, rfl⟩
  rw [hnn] at hn ⊢
  replace hnn := hide hnn
  replace hm := hide hm
  go_enter Tryz.func23, Tryz.ntmps23
  go_wp2
  go_loopw [5] (fun i wr => ∃ j : Nat, j ≤ n ∧ i = .int .i64 j ∧ Below w.heap.size w wr) (fun i _ => n - (intOf i).toNat)
  case atStart => exact ⟨0, Nat.zero_le _, rfl, Below.refl _ _⟩
  case round =>
    obtain ⟨j, hj, rfl, hb⟩ := hrel
    by_cases hlt : j < n
    · obtain ⟨⟨z, co, m, xs⟩, hx⟩ : ∃ x, l[j]? = some x := ⟨_, List.getElem?_eq_getElem (by rw [hnn.out]; exact hlt)⟩
      have hxl := hm.out _ (List.mem_of_getElem? hx)
      obtain ⟨b1, o1, F1, c1, rfl, -, hb1, ⟨a0, a1, a2, a3⟩, -, t1⟩ := (h1.later hb).req hx
      obtain ⟨b2, o2, F2, c2, rfl, -, hb2, ⟨e0, e1, e2, e3⟩, -, t2⟩ := (h2.later hb).req hx
      dsimp only at a0 a1 a2 a3 e0 e1 e2 e3 t1 t2 hxl
      have hj0 : (0 : Int) ≤ (j : Int) := by omega
      have hj1 : (j : Int) < (n : Int) := by omega
      obtain ⟨k, hk⟩ : ∃ k, xs.length = k := ⟨_, rfl⟩
      have hcall0 := hide (fun (W : World) (hW : Below wr.heap.size wr W) => r2SameS_walk F1 F2 xs c1 c2 W hxl (t1.later hW) (t2.later hW))
      rw [hk] at a3 e3 hcall0
      clear hk
      have hSL : Cn8 b1 ((o1 + j * 4)) (.string z) b1 ((o1 + j * 4 + 1)) (.string co) b1 ((o1 + j * 4 + 2)) (.int .i64 m) b1 ((o1 + j * 4 + 3)) (.slice F1 k c1) b2 ((o2 + j * 4)) (.string z) b2 ((o2 + j * 4 + 1)) (.string co) b2 ((o2 + j * 4 + 2)) (.int .i64 m) b2 ((o2 + j * 4 + 3)) (.slice F2 k c2) wr := ⟨a0, a1, a2, a3, e0, e1, e2, e3⟩
      have hcall := hide (fun (W : World) (hW : Below wr.heap.size wr W) => (hcall0.out W hW).mono fun e w' ⟨he, hb⟩ => (⟨he, ext_trans hW hb, hSL.later (ext_trans hW hb)⟩ : e = Ending.returned (.bool true) ∧ Below wr.heap.size wr w' ∧ Cn8 b1 ((o1 + j * 4)) (.string z) b1 ((o1 + j * 4 + 1)) (.string co) b1 ((o1 + j * 4 + 2)) (.int .i64 m) b1 ((o1 + j * 4 + 3)) (.slice F1 k c1) b2 ((o2 + j * 4)) (.string z) b2 ((o2 + j * 4 + 1)) (.string co) b2 ((o2 + j * 4 + 2)) (.int .i64 m) b2 ((o2 + j * 4 + 3)) (.slice F2 k c2) w'))
      have hSd := hSL.drew
      have hrefl := Below.refl wr.heap.size wr
      clear h1 h2 hx t1 t2 hcall0 hxl
      go_wp2_with fail
      go_region_held3 (fun W' => W'.cell? ⟨b1, (o1 + j * 4), none⟩ = some (.string z) ∧ W'.cell? ⟨b1, (o1 + j * 4 + 1), none⟩ = some (.string co) ∧ W'.cell? ⟨b1, (o1 + j * 4 + 2), none⟩ = some (.int .i64 m) ∧ W'.cell? ⟨b1, (o1 + j * 4 + 3), none⟩ = some (.slice F1 k c1) ∧ W'.cell? ⟨b2, (o2 + j * 4), none⟩ = some (.string z) ∧ W'.cell? ⟨b2, (o2 + j * 4 + 1), none⟩ = some (.string co) ∧ W'.cell? ⟨b2, (o2 + j * 4 + 2), none⟩ = some (.int .i64 m) ∧ W'.cell? ⟨b2, (o2 + j * 4 + 3), none⟩ = some (.slice F2 k c2)) (first | ((repeat (first | (with_reducible assumption) | (with_reducible refine Cn8.alloc ?_ _) | (with_reducible refine Cn8.drew ?_) | (with_reducible refine Cn8.set ?_ ?_ ?_ ?_ ?_ ?_ ?_ ?_ ?_ _) | omega)); done)) (first | (go_at_call 35; refine (hcall.out _ (by repeat (first | (with_reducible assumption) | (with_reducible refine ext_alloc ?_ _) | (with_reducible refine ext_drew ?_)))).mono ?_; rintro e w2 ⟨rfl, hb2, hc2⟩))
      all_goals
        have hbn := ext_trans hb hb2
        go_wp2
        go_roundw
        case rel => exact ⟨j + 1, by omega, by go_num, by first | exact ext_drew hbn | exact hbn⟩
        case measure => simp [intOf]; omega
    · obtain rfl : j = n := by omega
      go_wp2
      go_ret
      exact ⟨rfl, hb⟩
end Go.Proofs.YthejgholpkeldaaGreatDoor

namespace Go.Proofs.YthejgholpkeldaaGreatDoor
open Go.RowKit
set_option maxRecDepth 100000

/-- The students of a list of texts, in order. -/
def stR (ss : List ByteArray) : List ByteArray := ascN (freshS ss)
theorem stR_mem (ss : List ByteArray) (z : ByteArray) : 0 ≤ idxS z (stR ss) ↔ 0 ≤ idxS z ss := by
  rw [idx_memS, idx_memS]
  unfold stR ascN
  rw [(ascG_perm (freshS ss)).mem_iff, mem_fresh]
theorem stR_len (ss : List ByteArray) : (stR ss).length = (freshS ss).length := by unfold stR ascN; exact ascG_len _
theorem stR_snoc (ss : List ByteArray) (z : ByteArray) : stR (ss ++ [z]) = if 0 ≤ idxS z (stR ss) then stR ss else insG lessN ⟨#[]⟩ (stR ss) z := by
  have hm : 0 ≤ idxS z (stR ss) ↔ 0 ≤ idxS z (freshS ss) := by rw [stR_mem, idx_memS, idx_memS, mem_fresh]
  unfold stR at hm ⊢
  rw [freshS_snoc]
  by_cases h : 0 ≤ idxS z (freshS ss)
  · rw [if_pos h, if_pos (hm.2 h)]
  · rw [if_neg h, if_neg (fun h' => h (hm.1 h'))]
    exact ascG_snoc _ _
theorem posG_same {x : ByteArray} {out : List ByteArray} {k : Nat} (h : lessN x (out.getD k ⟨#[]⟩) = true) : posG lessN ⟨#[]⟩ x out (k + 1) = posG lessN ⟨#[]⟩ x out k := by rw [posG, if_pos h]
theorem posG_stop {x : ByteArray} {out : List ByteArray} {k : Nat} (h : lessN x (out.getD k ⟨#[]⟩) = false) : posG lessN ⟨#[]⟩ x out (k + 1) = k + 1 := by rw [posG, h]; rfl
set_option maxHeartbeats 8000000 in
theorem r12studs_walk (A : Option Addr) (l : List Req) (c : Nat) (w : World) (hn : l.length ≤ 1000000000) (hz : ∀ x ∈ l, x.1.size ≤ 9223372036854775807) (h : At kReq AnyB w A l) :
    Calls Tryz.prog 36 #[.slice A l.length c] w fun e w' => ∃ v, e = .returned v ∧ Own kStr 9 [] 0 w.heap.size w' v (studsV l) ∧ Below w.heap.size w w' := by
  obtain ⟨N, hN⟩ : ∃ N, l.length = N := ⟨_, rfl⟩
  have hsl : Hid ((studs l).length = N) := hide (by rw [← hN]; exact List.length_map _)
  rw [hN] at hn ⊢
  replace hN := hide hN
  replace hz := hide hz
  go_enter Tryz.func36, Tryz.ntmps36
  go_wp2_with fail
  go_loopw [3, 4] (fun v u wr => ∃ i : Nat, i ≤ N ∧ u = .int .i64 i ∧ Own kStr 9 [] 0 w.heap.size wr v (stR ((studs l).take i)) ∧ Below w.heap.size w wr) (fun _ u _ => N - (intOf u).toNat)
  case atStart => exact ⟨0, Nat.zero_le _, rfl, Own.nil, Below.refl _ _⟩
  case round =>
    obtain ⟨i, hi, rfl, hown, hb⟩ := hrel
    by_cases hlt : i < N
    · obtain ⟨x0, hx0⟩ : ∃ x, l[i]? = some x := ⟨_, List.getElem?_eq_getElem (by rw [hN.out]; exact hlt)⟩
      have hxz := hz.out x0 (List.mem_of_getElem? hx0)
      have hsn := studs_take hx0
      obtain ⟨zb, zo, F, cF, rfl, -, hzl, ⟨z0, -, -, -⟩, -, -⟩ := (h.later hb).req hx0
      obtain ⟨x, co, m, ts⟩ := x0
      dsimp only at z0 hsn hxz
      have hnx : stR ((studs l).take (i + 1)) = if 0 ≤ idxS x (stR ((studs l).take i)) then stR ((studs l).take i) else insG lessN ⟨#[]⟩ (stR ((studs l).take i)) x := by rw [hsn, stR_snoc]
      have hoz : ∀ y ∈ stR ((studs l).take i), y.size ≤ 9223372036854775807 := fun y hy => by
        have hy := (mem_fresh _ _).1 ((ascG_perm (freshS ((studs l).take i))).mem_iff.1 hy)
        obtain ⟨r, hr, rfl⟩ := List.mem_map.1 (List.mem_of_mem_take hy)
        exact hz.out r hr
      have hol2 : (stR ((studs l).take i)).length ≤ 1000000000 := by
        rw [stR_len]
        refine Nat.le_trans (fresh_len _) ?_
        rw [List.length_take, hsl.out]
        omega
      obtain ⟨out, hout⟩ : ∃ out, stR ((studs l).take i) = out := ⟨_, rfl⟩
      rw [hout] at hown hnx hoz hol2
      obtain ⟨A3, c3, rfl, hcap, hat⟩ := hown.any
      obtain ⟨j, hol⟩ : ∃ j, out.length = j := ⟨_, rfl⟩
      have hhas := r2has_walk A3 out c3 x wr (by omega) hat.any
      rw [hol] at hown hcap hhas hol2 ⊢
      have hj0 : (0 : Int) ≤ (i : Int) := by omega
      have hj1 : (i : Int) < (N : Int) := by omega
      replace hol := hide hol
      clear hx0 hsn
      by_cases hm : 0 ≤ idxS x out
      · rw [if_pos hm, ← hout] at hnx
        rw [decide_eq_true hm] at hhas
        replace hnx := hide hnx
        replace hout := hide hout
        clear hm hat hoz hcap
        go_wp2_with (go_at_call 53; refine hhas.mono ?_; rintro e w5 ⟨rfl, rfl⟩)
        go_roundw
        case rel => exact ⟨i + 1, by omega, by go_num, by rw [hnx.out, hout.out]; exact hown, hb⟩
        case measure => first | (simp [intOf]; done) | (simp [intOf]; omega)
      · rw [if_neg hm] at hnx
        rw [decide_eq_false hm] at hhas
        replace hnx := hide hnx
        replace hoz := hide hoz
        clear hm hout
        go_wp2_with (go_at_call 53; refine hhas.mono ?_; rintro e w5 ⟨rfl, rfl⟩)
        clear hhas z0
        rename World => wo
        have hze := hb.size
        go_loopw [6] (fun v wi => ∃ k : Nat, k ≤ j ∧ v = .int .i64 k ∧ Hid (posG lessN ⟨#[]⟩ x out j = posG lessN ⟨#[]⟩ x out k) ∧ Below wo.heap.size wo wi) (fun v _ => (intOf v).toNat)
        case atStart => exact ⟨j, Nat.le_refl _, rfl, hide rfl, Below.refl _ _⟩
        case round =>
          obtain ⟨k, hk, rfl, hps, hbi⟩ := hrel
          by_cases hk0 : 0 < k
          · obtain ⟨k, rfl⟩ : ∃ k', k = k' + 1 := ⟨k - 1, by omega⟩
            obtain ⟨y, hy⟩ : ∃ y, out[k]? = some y := ⟨_, List.getElem?_eq_getElem (by rw [hol.out]; omega)⟩
            obtain ⟨ob, oo, rfl, -, hobl, y0⟩ := (hat.any.later hbi).str hy
            have hyd : out.getD k ⟨#[]⟩ = y := by rw [List.getD_eq_getElem?_getD, hy]; rfl
            have hyz := hoz.out y (List.mem_of_getElem? hy)
            have hcmp := r3compare_walk x y wr hxz hyz
            obtain ⟨cv, hcv⟩ : ∃ cv, compareV x.data.toList y.data.toList = cv := ⟨_, rfl⟩
            have hlv : lessN x y = decide (cv < 0) := by rw [← hcv]; rfl
            rw [hcv] at hcmp
            obtain ⟨k1, hk1e⟩ : ∃ k1, k + 1 = k1 := ⟨_, rfl⟩
            have hk1 : (0 : Int) < (k1 : Int) := by omega
            have hkw : IntKind.i64.wrap ((k1 : Int) - 1) = (k : Int) := by rw [IntKind.wrap_i64]; omega
            have hk2 : (0 : Int) ≤ (k : Int) := by omega
            have hk3 : (k : Int) < (j : Int) := by omega
            by_cases hcv0 : cv < 0
            · have hnp : Hid (posG lessN ⟨#[]⟩ x out j = posG lessN ⟨#[]⟩ x out k) := hide (hps.out.trans (posG_same (by rw [hyd, hlv]; exact decide_eq_true hcv0)))
              rw [hk1e]
              replace hk1e := hide hk1e
              clear hy hyd hlv hps hcv hk0
              go_wp2_with (go_at_call 22; refine hcmp.mono ?_; rintro e w7 ⟨rfl, hb7⟩)
              all_goals try (exfalso; omega)
              go_roundw
              case rel => exact ⟨k, by omega, by go_num, hnp, ext_trans hbi hb7⟩
              case measure => first | (simp [intOf]; done) | (simp [intOf]; have := hk1e.out; omega)
            · have hpp : Hid (posG lessN ⟨#[]⟩ x out j = k1) := hide (by rw [← hk1e]; exact hps.out.trans (posG_stop (by rw [hyd, hlv]; exact decide_eq_false hcv0)))
              rw [hk1e] at hk ⊢
              replace hk1e := hide hk1e
              clear hy hyd hlv hps hcv hk0
              go_upto_region 10 with (go_at_call 22; refine hcmp.mono ?_; rintro e wz ⟨rfl, hb7⟩)
              all_goals try (exfalso; omega)
              have hbz : Below wo.heap.size wo wz := ext_trans hbi hb7
              have hownz := hown.later hbz
              have hbw : Below w.heap.size w wz := ext_trans hb hbz
              have hwj : wo.heap.size ≤ wz.heap.size := hbz.size
              clear y0 hobl hkw hk2 hk3 hk1 hcmp hcv0 hb7 hbi hbz
              obtain ⟨q, hqe⟩ : ∃ q, k1 = q := ⟨_, rfl⟩
              rw [hqe] at hpp hk ⊢
              clear hqe hk1e
              obtain ⟨A3q, hA3q⟩ : ∃ A3q, some (⟨ob, oo, none⟩ : Addr) = A3q := ⟨_, rfl⟩
              rw [hA3q] at hown hownz hat ⊢
              clear hA3q
              (
                have hq0 : (0 : Int) ≤ (q : Int) := by omega
                have hq1 : (q : Int) ≤ (j : Int) := by omega
                have hqc : (q : Int) ≤ (c3 : Int) := by omega
                have hfr := hownz.front hk
                clear hown hat hb
                have hWo : Below wz.heap.size wz ((wz.alloc (.cells #[.string x] 9)).drew) := ext_drew (ext_alloc (Below.refl _ _) _)
                have hone : Own kStr 9 [] 0 wz.heap.size ((wz.alloc (.cells #[.string x] 9)).drew) (.slice (some ⟨wz.heap.size, 0, none⟩) 1 1) [x] :=
                  (Own.lit (K := kStr) (heap_alloc_new wz (.cells #[.string x] 9)) [x] [[.string x]] rfl rfl (by simp) (fun j x vs hj hv => by
                    match j, hj, hv with
                    | 0, hj, hv => simp at hj hv; subst hj hv; rfl
                    | j + 1, hj, _ => simp at hj) (Nat.le_refl _)).drew
                have hfz := hfr.later hWo
                have hfl : ∀ y, (Value.slice A3q q c3).ownBlock = some y → w.heap.size ≤ y ∧ y < wz.heap.size := fun y hy => hfr.lt y hy
                have hsz : wz.heap.size ≤ ((wz.alloc (.cells #[.string x] 9)).drew).heap.size := hWo.size
                by_cases hqj : q = j
                · subst hqj
                  have hql : (out.take q).length = q := by rw [List.length_take, hol.out]; omega
                  have hl1 : (out.take q).length + 1 ≤ 4000000000 := by rw [hql]; omega
                  have hfin : Hid (out.take q ++ [x] = stR ((studs l).take (i + 1))) := hide (by
                    have hd : out.drop q = [] := List.drop_eq_nil_of_le (by rw [hol.out]; exact Nat.le_refl _)
                    rw [hnx.out]
                    unfold insG
                    rw [hol.out, hpp.out, hd])
                  cases A3q with
                  | none =>
                    go_region_law (refine step_own_app (P := Tryz.prog) (t2 := 41) (t := 9) (B := w.heap.size) (As := none) (ns := q) (cs := c3) (l := out.take q) (F := some ⟨wz.heap.size, 0, none⟩) (es := [x]) (k := 1) (c := 1) (bytes := 16) rfl (.tmp 39) (.tmp 45) rfl apd_strs (by simp [Act.eval]; done) hfz rfl (by decide) (by simp [Act.eval]; done) hone.any'.any hl1 (by decide) (Nat.le_trans hbw.size hsz) ?_; intro g5 c5 w5 ho5 hgr5 hgl5)
                    have hbf : Below w.heap.size w w5 := below_grown (ext_trans hbw hWo) hgr5 (fun y hy => (hfl y hy).1)
                    rw [hql, hfin.out] at ho5
                    clear hgr5 hgl5 hfin hfl hfz hone hfr hownz hWo hnx hpp
                    go_wp2_with fail
                    go_roundw
                    case rel => exact ⟨i + 1, by omega, by go_num, ho5, hbf⟩
                    case measure => first | (simp [intOf]; done) | (simp [intOf]; omega)
                  | some ad =>
                    by_cases hcq : c3 = q
                    · subst hcq
                      go_region_law (refine step_own_app (P := Tryz.prog) (t2 := 41) (t := 9) (B := w.heap.size) (As := some ad) (ns := c3) (cs := c3) (l := out.take c3) (F := some ⟨wz.heap.size, 0, none⟩) (es := [x]) (k := 1) (c := 1) (bytes := 16) rfl (.tmp 39) (.tmp 45) rfl apd_strs (by simp [Act.eval]; done) hfz rfl (by decide) (by simp [Act.eval]; done) hone.any'.any hl1 (by decide) (Nat.le_trans hbw.size hsz) ?_; intro g5 c5 w5 ho5 hgr5 hgl5)
                      have hbf : Below w.heap.size w w5 := below_grown (ext_trans hbw hWo) hgr5 (fun y hy => (hfl y hy).1)
                      rw [hql, hfin.out] at ho5
                      clear hgr5 hgl5 hfin hfl hfz hone hfr hownz hWo hnx hpp
                      go_wp2_with fail
                      go_roundw
                      case rel => exact ⟨i + 1, by omega, by go_num, ho5, hbf⟩
                      case measure => first | (simp [intOf]; done) | (simp [intOf]; omega)
                    · go_region_law (refine step_own_app (P := Tryz.prog) (t2 := 41) (t := 9) (B := w.heap.size) (As := some ad) (ns := q) (cs := c3) (l := out.take q) (F := some ⟨wz.heap.size, 0, none⟩) (es := [x]) (k := 1) (c := 1) (bytes := 16) rfl (.tmp 39) (.tmp 45) rfl apd_strs (by simp [Act.eval]; done) hfz rfl (by decide) (by simp [Act.eval]; done) hone.any'.any hl1 (by decide) (Nat.le_trans hbw.size hsz) ?_; intro g5 c5 w5 ho5 hgr5 hgl5)
                      have hbf : Below w.heap.size w w5 := below_grown (ext_trans hbw hWo) hgr5 (fun y hy => (hfl y hy).1)
                      rw [hql, hfin.out] at ho5
                      clear hgr5 hgl5 hfin hfl hfz hone hfr hownz hWo hnx hpp
                      go_wp2_with fail
                      go_roundw
                      case rel => exact ⟨i + 1, by omega, by go_num, ho5, hbf⟩
                      case measure => first | (simp [intOf]; done) | (simp [intOf]; omega)
                · have hcq : ¬ c3 = q := by omega
                  obtain ⟨g3, hg3, hgl⟩ : ∃ g3, A3q = some ⟨g3, 0, none⟩ ∧ g3 < wz.heap.size := by
                    obtain ⟨vss, -, e2, -⟩ := hownz
                    rcases e2.2 with ⟨e, h0⟩ | ⟨g3, cap, cur, e, hB, hg3, -⟩
                    · exfalso; have := hol.out; omega
                    · injection e with e
                      exact ⟨g3, e, blk_lt hg3⟩
                  cases hg3
                  have hdr := (hownz.any'.any.drop_str (k := q)).later hWo
                  rw [Nat.zero_add] at hdr
                  have hdl : (out.drop q).length = j - q := by rw [List.length_drop, hol.out]
                  have hql : (out.take q).length = q := by rw [List.length_take, hol.out]; omega
                  have hpos : 0 < j - q := by omega
                  have hw7 := hbw.size
                  have hfin : Hid (out.take q ++ ([x] ++ out.drop q) = stR ((studs l).take (i + 1))) := hide (by
                    rw [hnx.out]
                    unfold insG
                    rw [hol.out, hpp.out]; rfl)
                  have hl0 : ([x] : List ByteArray).length + (j - q) ≤ 4000000000 := by show 1 + (j - q) ≤ _; omega
                  have hl1 : ∀ a b : ByteArray, ((out.take q).length : Nat) + (1 + (j - q)) ≤ 4000000000 := fun _ _ => by rw [hql]; omega
                  have hle : ([x] ++ out.drop q).length = 1 + (j - q) := by rw [List.length_append]; exact congrArg (1 + ·) hdl
                  go_region_law (first | (refine step_own_app (P := Tryz.prog) (t2 := 41) (t := 9) (B := wz.heap.size) (As := some ⟨wz.heap.size, 0, none⟩) (ns := 1) (cs := 1) (l := [x]) (F := some ⟨g3, q, none⟩) (es := out.drop q) (k := j - q) (c := c3 - q) (bytes := 16) rfl (.tmp 41) (.tmp 44) rfl apd_strs (by simp [Act.eval]; done) hone hdl hpos (by simp [Act.eval]; done) hdr hl0 (by decide) hsz ?_; intro g4 c4 w4 ho4 hgr4 hgl4; have hf4 := hfz.kept hgr4 (Or.inr (fun e => by simp [Value.ownBlock] at e; omega)) (fun y hy => ⟨Nat.zero_le _, fun h => by obtain ⟨-, cs, t', -, ht⟩ := h; simp at ht⟩)) | (refine step_own_app (P := Tryz.prog) (t2 := 41) (t := 9) (B := w.heap.size) (As := some ⟨g3, 0, none⟩) (ns := q) (cs := c3) (l := out.take q) (F := some ⟨g4, 0, none⟩) (es := [x] ++ out.drop q) (k := 1 + (j - q)) (c := c4) (bytes := 16) rfl (.tmp 39) (.tmp 45) rfl apd_strs (by simp [Act.eval]; done) hf4 hle (by omega) (by simp [Act.eval]; done) ho4.any'.any (hl1 x x) (by decide) (Nat.le_trans (Nat.le_trans hw7 hsz) hgr4.size) ?_; intro g5 c5 w5 ho5 hgr5 hgl5))
                  have hbf : Below w.heap.size w w5 := below_grown (below_grown (ext_trans hbw hWo) hgr4 (fun y hy => by simp [Value.ownBlock] at hy; omega)) hgr5 (fun y hy => (hfl y hy).1)
                  rw [hql, hfin.out] at ho5
                  have hqe : q + (1 + (j - q)) = j + 1 := by omega
                  rw [hqe] at ho5 ⊢
                  clear hgr5 hgr4 hgl4 hgl5 ho4 hf4 hfin hfl hfz hone hdr hfr hownz hWo hnx hpp
                  go_wp2_with fail
                  go_roundw
                  case rel => exact ⟨i + 1, by omega, by go_num, ho5, hbf⟩
                  case measure => first | (simp [intOf]; done) | (simp [intOf]; omega))
          · have hpp : Hid (posG lessN ⟨#[]⟩ x out j = k) := hide (by
              have e : k = 0 := by omega
              rw [hps.out, e]; rfl)
            have hk1 : ¬ (0 : Int) < (k : Int) := by omega
            clear hps
            go_upto_region 10 with fail
            obtain ⟨wz, hwz⟩ : ∃ wz, wr = wz := ⟨_, rfl⟩
            subst hwz
            rename World => wz
            have hbz : Below wo.heap.size wo wz := hbi
            have hownz := hown.later hbz
            have hbw : Below w.heap.size w wz := ext_trans hb hbz
            clear hk1 hk0 hbi hbz
            obtain ⟨q, hqe⟩ : ∃ q, k = q := ⟨_, rfl⟩
            rw [hqe] at hpp hk ⊢
            clear hqe
            obtain ⟨A3q, hA3q⟩ : ∃ A3q, A3 = A3q := ⟨_, rfl⟩
            rw [hA3q] at hown hownz hat ⊢
            clear hA3q
            (
              have hq0 : (0 : Int) ≤ (q : Int) := by omega
              have hq1 : (q : Int) ≤ (j : Int) := by omega
              have hqc : (q : Int) ≤ (c3 : Int) := by omega
              have hfr := hownz.front hk
              clear hown hat hb
              have hWo : Below wz.heap.size wz ((wz.alloc (.cells #[.string x] 9)).drew) := ext_drew (ext_alloc (Below.refl _ _) _)
              have hone : Own kStr 9 [] 0 wz.heap.size ((wz.alloc (.cells #[.string x] 9)).drew) (.slice (some ⟨wz.heap.size, 0, none⟩) 1 1) [x] :=
                (Own.lit (K := kStr) (heap_alloc_new wz (.cells #[.string x] 9)) [x] [[.string x]] rfl rfl (by simp) (fun j x vs hj hv => by
                  match j, hj, hv with
                  | 0, hj, hv => simp at hj hv; subst hj hv; rfl
                  | j + 1, hj, _ => simp at hj) (Nat.le_refl _)).drew
              have hfz := hfr.later hWo
              have hfl : ∀ y, (Value.slice A3q q c3).ownBlock = some y → w.heap.size ≤ y ∧ y < wz.heap.size := fun y hy => hfr.lt y hy
              have hsz : wz.heap.size ≤ ((wz.alloc (.cells #[.string x] 9)).drew).heap.size := hWo.size
              by_cases hqj : q = j
              · subst hqj
                have hql : (out.take q).length = q := by rw [List.length_take, hol.out]; omega
                have hl1 : (out.take q).length + 1 ≤ 4000000000 := by rw [hql]; omega
                have hfin : Hid (out.take q ++ [x] = stR ((studs l).take (i + 1))) := hide (by
                  have hd : out.drop q = [] := List.drop_eq_nil_of_le (by rw [hol.out]; exact Nat.le_refl _)
                  rw [hnx.out]
                  unfold insG
                  rw [hol.out, hpp.out, hd])
                cases A3q with
                | none =>
                  go_region_law (refine step_own_app (P := Tryz.prog) (t2 := 41) (t := 9) (B := w.heap.size) (As := none) (ns := q) (cs := c3) (l := out.take q) (F := some ⟨wz.heap.size, 0, none⟩) (es := [x]) (k := 1) (c := 1) (bytes := 16) rfl (.tmp 39) (.tmp 45) rfl apd_strs (by simp [Act.eval]; done) hfz rfl (by decide) (by simp [Act.eval]; done) hone.any'.any hl1 (by decide) (Nat.le_trans hbw.size hsz) ?_; intro g5 c5 w5 ho5 hgr5 hgl5)
                  have hbf : Below w.heap.size w w5 := below_grown (ext_trans hbw hWo) hgr5 (fun y hy => (hfl y hy).1)
                  rw [hql, hfin.out] at ho5
                  clear hgr5 hgl5 hfin hfl hfz hone hfr hownz hWo hnx hpp
                  go_wp2_with fail
                  go_roundw
                  case rel => exact ⟨i + 1, by omega, by go_num, ho5, hbf⟩
                  case measure => first | (simp [intOf]; done) | (simp [intOf]; omega)
                | some ad =>
                  by_cases hcq : c3 = q
                  · subst hcq
                    go_region_law (refine step_own_app (P := Tryz.prog) (t2 := 41) (t := 9) (B := w.heap.size) (As := some ad) (ns := c3) (cs := c3) (l := out.take c3) (F := some ⟨wz.heap.size, 0, none⟩) (es := [x]) (k := 1) (c := 1) (bytes := 16) rfl (.tmp 39) (.tmp 45) rfl apd_strs (by simp [Act.eval]; done) hfz rfl (by decide) (by simp [Act.eval]; done) hone.any'.any hl1 (by decide) (Nat.le_trans hbw.size hsz) ?_; intro g5 c5 w5 ho5 hgr5 hgl5)
                    have hbf : Below w.heap.size w w5 := below_grown (ext_trans hbw hWo) hgr5 (fun y hy => (hfl y hy).1)
                    rw [hql, hfin.out] at ho5
                    clear hgr5 hgl5 hfin hfl hfz hone hfr hownz hWo hnx hpp
                    go_wp2_with fail
                    go_roundw
                    case rel => exact ⟨i + 1, by omega, by go_num, ho5, hbf⟩
                    case measure => first | (simp [intOf]; done) | (simp [intOf]; omega)
                  · go_region_law (refine step_own_app (P := Tryz.prog) (t2 := 41) (t := 9) (B := w.heap.size) (As := some ad) (ns := q) (cs := c3) (l := out.take q) (F := some ⟨wz.heap.size, 0, none⟩) (es := [x]) (k := 1) (c := 1) (bytes := 16) rfl (.tmp 39) (.tmp 45) rfl apd_strs (by simp [Act.eval]; done) hfz rfl (by decide) (by simp [Act.eval]; done) hone.any'.any hl1 (by decide) (Nat.le_trans hbw.size hsz) ?_; intro g5 c5 w5 ho5 hgr5 hgl5)
                    have hbf : Below w.heap.size w w5 := below_grown (ext_trans hbw hWo) hgr5 (fun y hy => (hfl y hy).1)
                    rw [hql, hfin.out] at ho5
                    clear hgr5 hgl5 hfin hfl hfz hone hfr hownz hWo hnx hpp
                    go_wp2_with fail
                    go_roundw
                    case rel => exact ⟨i + 1, by omega, by go_num, ho5, hbf⟩
                    case measure => first | (simp [intOf]; done) | (simp [intOf]; omega)
              · have hcq : ¬ c3 = q := by omega
                obtain ⟨g3, hg3, hgl⟩ : ∃ g3, A3q = some ⟨g3, 0, none⟩ ∧ g3 < wz.heap.size := by
                  obtain ⟨vss, -, e2, -⟩ := hownz
                  rcases e2.2 with ⟨e, h0⟩ | ⟨g3, cap, cur, e, hB, hg3, -⟩
                  · exfalso; have := hol.out; omega
                  · injection e with e
                    exact ⟨g3, e, blk_lt hg3⟩
                cases hg3
                have hdr := (hownz.any'.any.drop_str (k := q)).later hWo
                rw [Nat.zero_add] at hdr
                have hdl : (out.drop q).length = j - q := by rw [List.length_drop, hol.out]
                have hql : (out.take q).length = q := by rw [List.length_take, hol.out]; omega
                have hpos : 0 < j - q := by omega
                have hw7 := hbw.size
                have hfin : Hid (out.take q ++ ([x] ++ out.drop q) = stR ((studs l).take (i + 1))) := hide (by
                  rw [hnx.out]
                  unfold insG
                  rw [hol.out, hpp.out]; rfl)
                have hl0 : ([x] : List ByteArray).length + (j - q) ≤ 4000000000 := by show 1 + (j - q) ≤ _; omega
                have hl1 : ∀ a b : ByteArray, ((out.take q).length : Nat) + (1 + (j - q)) ≤ 4000000000 := fun _ _ => by rw [hql]; omega
                have hle : ([x] ++ out.drop q).length = 1 + (j - q) := by rw [List.length_append]; exact congrArg (1 + ·) hdl
                go_region_law (first | (refine step_own_app (P := Tryz.prog) (t2 := 41) (t := 9) (B := wz.heap.size) (As := some ⟨wz.heap.size, 0, none⟩) (ns := 1) (cs := 1) (l := [x]) (F := some ⟨g3, q, none⟩) (es := out.drop q) (k := j - q) (c := c3 - q) (bytes := 16) rfl (.tmp 41) (.tmp 44) rfl apd_strs (by simp [Act.eval]; done) hone hdl hpos (by simp [Act.eval]; done) hdr hl0 (by decide) hsz ?_; intro g4 c4 w4 ho4 hgr4 hgl4; have hf4 := hfz.kept hgr4 (Or.inr (fun e => by simp [Value.ownBlock] at e; omega)) (fun y hy => ⟨Nat.zero_le _, fun h => by obtain ⟨-, cs, t', -, ht⟩ := h; simp at ht⟩)) | (refine step_own_app (P := Tryz.prog) (t2 := 41) (t := 9) (B := w.heap.size) (As := some ⟨g3, 0, none⟩) (ns := q) (cs := c3) (l := out.take q) (F := some ⟨g4, 0, none⟩) (es := [x] ++ out.drop q) (k := 1 + (j - q)) (c := c4) (bytes := 16) rfl (.tmp 39) (.tmp 45) rfl apd_strs (by simp [Act.eval]; done) hf4 hle (by omega) (by simp [Act.eval]; done) ho4.any'.any (hl1 x x) (by decide) (Nat.le_trans (Nat.le_trans hw7 hsz) hgr4.size) ?_; intro g5 c5 w5 ho5 hgr5 hgl5))
                have hbf : Below w.heap.size w w5 := below_grown (below_grown (ext_trans hbw hWo) hgr4 (fun y hy => by simp [Value.ownBlock] at hy; omega)) hgr5 (fun y hy => (hfl y hy).1)
                rw [hql, hfin.out] at ho5
                have hqe : q + (1 + (j - q)) = j + 1 := by omega
                rw [hqe] at ho5 ⊢
                clear hgr5 hgr4 hgl4 hgl5 ho4 hf4 hfin hfl hfz hone hdr hfr hownz hWo hnx hpp
                go_wp2_with fail
                go_roundw
                case rel => exact ⟨i + 1, by omega, by go_num, ho5, hbf⟩
                case measure => first | (simp [intOf]; done) | (simp [intOf]; omega))
    · obtain rfl : i = N := by omega
      have hall : Hid (stR ((studs l).take i) = studsV l) := hide (by rw [← hsl.out, List.take_length]; rfl)
      rw [hall.out] at hown
      go_wp2_with fail
      go_ret
      exact ⟨_, rfl, hown, hb⟩
end Go.Proofs.YthejgholpkeldaaGreatDoor

/- Walk of the closure of requests.Lines: one request is read. Conditions: the scanner's cells are as Scan says; texts shorter than 2^30 bytes. -/
import Derived.Test.YthejgholpkeldaaGreatDoorShelfS
import Derived.Test.YthejgholpkeldaaGreatDoorRows
import Derived.WalkKit
import Derived.WalkSpells
import Derived.WalkLawsBesides
import Derived.BigGuardPart
import Derived.Lib.Hide
import Derived.Laws.BitsAllLaws
import Derived.Laws.BitsLemmas
import Derived.Lib.LaidTab
import Derived.Test.YthejgholpkeldaaGreatDoorShelf
import Derived.Lib.ConvBytes
import Derived.Deep.QuietTactic
import Derived.BigQuiet
import Derived.Laws.ResultCell
import Derived.RegionTactic
import Derived.BigRegion
import Derived.Deep.RegionHeld3
import Derived.Deep.DeepCutAuto
import Derived.Lib.SmallJoins
import Derived.Lib.SplitLaws
import Derived.Lib.CountLaws
import Derived.Lib.IndexMore
import Derived.Lib.Split
import Derived.Lib.Join
import Derived.Lib.ItoaNum
import Derived.Laws.AppendOwn
import Derived.Test.YthejgholpkeldaaGreatDoorShelfT
import Derived.Lib.ItoaLen
import Derived.Lib.AppendIntMem
import Derived.Deep.AppendLies
import Derived.Lib.PathFns
import Derived.Maps.Range
import Derived.Lib.OwnBridge
import Derived.Sort.OwnSorted
import Derived.Sort.Walk0
import Derived.Test.YthejgholpkeldaaGreatDoorCards
import Derived.Test.YthejgholpkeldaaGreatDoorTie
import Derived.ProofKit
import Derived.OpenShut
import Derived.LaidMore
import Derived.Lay
import Derived.SevenTiedAt
import Derived.Stop.Joined
import Derived.Stop.LaidErr
import Derived.Deep.DeepHandedRow
import Derived.Lib.LaidU8
import Derived.LaidSub
import Derived.Deep.Slices
import Derived.Deep.Fields
import Derived.ChangeSame
import Derived.Maps.OwnSet
import Derived.Deep.RegionLaw
import Derived.Deep.RegionLawGrows
import Derived.StringKeys
import Derived.Sort.LotA
import Derived.Test.YthejgholpkeldaaGreatDoorYFound
import Derived.Test.YthejgholpkeldaaGreatDoorYReqOwn
import Derived.Test.YthejgholpkeldaaGreatDoorYStuds
namespace Go.Proofs.YthejgholpkeldaaGreatDoor
open Go.RowKit
set_option maxRecDepth 100000

def set4q (w : World) (r : Nat) (a b c d : Value) : World := (((w.setCell ⟨r, 0, none⟩ a).setCell ⟨r, 1, none⟩ b).setCell ⟨r, 2, none⟩ c).setCell ⟨r, 3, none⟩ d
theorem set4q_cells {w : World} {r : Nat} {a b c d a' b' c' d' : Value} (h0 : w.cell? ⟨r, 0, none⟩ = some a') (h1 : w.cell? ⟨r, 1, none⟩ = some b') (h2 : w.cell? ⟨r, 2, none⟩ = some c') (h3 : w.cell? ⟨r, 3, none⟩ = some d') :
    (set4q w r a b c d).cell? ⟨r, 0, none⟩ = some a ∧ (set4q w r a b c d).cell? ⟨r, 1, none⟩ = some b ∧ (set4q w r a b c d).cell? ⟨r, 2, none⟩ = some c ∧ (set4q w r a b c d).cell? ⟨r, 3, none⟩ = some d := by
  have o : ∀ (W : World) (i j : Nat) (u : Value), i ≠ j → (W.setCell ⟨r, i, none⟩ u).cell? ⟨r, j, none⟩ = W.cell? ⟨r, j, none⟩ := fun W i j u h => World.cell?_setCell_other _ _ _ _ (by intro e; injection e with e1 e2; first | exact h e2 | exact h e2.symm)
  unfold set4q
  refine ⟨?_, ?_, ?_, ?_⟩
  · rw [o _ _ _ _ (by decide), o _ _ _ _ (by decide), o _ _ _ _ (by decide)]; exact World.cell?_setCell_same _ _ _ h0
  · rw [o _ _ _ _ (by decide), o _ _ _ _ (by decide)]; exact World.cell?_setCell_same _ _ _ ((o _ _ _ _ (by decide)).trans h1)
  · rw [o _ _ _ _ (by decide)]; exact World.cell?_setCell_same _ _ _ ((o _ _ _ _ (by decide)).trans ((o _ _ _ _ (by decide)).trans h2))
  · exact World.cell?_setCell_same _ _ _ ((o _ _ _ _ (by decide)).trans ((o _ _ _ _ (by decide)).trans ((o _ _ _ _ (by decide)).trans h3)))
theorem set4q_scan {w : World} {g r : Nat} {line : Int} {F : Option Addr} {m c k : Nat} {pr : Option Prob} {z z' : ByteArray} {b2 c2 d2 : Value} (h : Scan w g line F m c k pr) (h0 : w.cell? ⟨r, 0, none⟩ = some (.string z')) (hne : r ≠ g) : Scan (set4q w r (.string z) b2 c2 d2) g line F m c k pr := by
  have o : ∀ (W : World) (i j : Nat) (u : Value), i ≠ j → (W.setCell ⟨r, i, none⟩ u).cell? ⟨r, j, none⟩ = W.cell? ⟨r, j, none⟩ := fun W i j u h => World.cell?_setCell_other _ _ _ _ (by intro e; injection e with e1 e2; first | exact h e2 | exact h e2.symm)
  have s0 : (w.setCell ⟨r, 0, none⟩ (.string z)).cell? ⟨r, 0, none⟩ = some (.string z) := World.cell?_setCell_same _ _ _ h0
  unfold set4q
  exact scan_set (scan_set (scan_set (scan_set h h0 hne) s0 hne) ((o _ _ _ _ (by decide)).trans s0) hne) ((o _ _ _ _ (by decide)).trans ((o _ _ _ _ (by decide)).trans s0)) hne
theorem set4q_only {a w : World} {g r : Nat} {b1 b2 c2 d2 : Value} (h : Only g a w) (hp : r = g ∨ a.heap.size ≤ r) : Only g a (set4q w r b1 b2 c2 d2) :=
  only_setCell (only_setCell (only_setCell (only_setCell h hp _) hp _) hp _) hp _
def ReqGives (g : Nat) (line : Int) (F : Option Addr) (fs : List Fld) (c : Nat) (ls : List Req) (w : World) (e : Ending) (w' : World) : Prop :=
  ∃ (t0 t1 : ByteArray) (nn : Nat) (l : List ByteArray) (v : Value) (k : Nat), e = .returned (.agg #[.string t0, .string t1, .int .i64 (nn : Int), v]) ∧ Own kStr 9 [] 0 w.heap.size w' v l ∧ Scan w' g line F fs.length c k (reqP line fs ls) ∧ (reqP line fs ls = none → (t0, t1, (nn : Int), l) = reqOf fs) ∧ Only g w w'
/-- Whether there are too many: what the region of many says. -/
theorem many_eq (ls : List Req) (s : ByteArray) (q n k : Nat) (hq : ls.length = q) (hn : (freshS (studs ls)).length = n) (hk : countS s (studs ls) = k) : manyQ ls s = (decide (400 ≤ q) || (decide (64 ≤ n) && decide (k = 0))) := by
  unfold manyQ
  rw [hq, hn]
  congr 2
  exact decide_eq_decide.2 (by rw [← hk, countS_zero])
set_option maxHeartbeats 8000000 in
theorem qone_walk (B g : Nat) (line : Int) (F : Option Addr) (fs : List Fld) (c : Nat) (A : Option Addr) (ls : List Req) (cr : Nat) (w : World) (hS : Std w)
    (hsc : Scan w g line F fs.length c 0 none) (hF : FieldsAt B w F fs) (hl : fs.length = 4) (hB : B ≤ g) (hN : 9 ≤ B) (hsz : ∀ k, (textAt fs k).size < 1073741824) (hq : ls.length ≤ 1000000000) (hlz : ∀ x ∈ ls, x.1.size ≤ 9223372036854775807) (hw : At kReq (· < g) w A ls) :
    Calls Tryz.prog 63 #[.pointer (some ⟨g, 0, none⟩), .slice A ls.length cr] w fun e w' => ReqGives g line F fs c ls w e w' := by
  have hgl := hsc.lt
  go_enter Tryz.func63, Tryz.ntmps63
  go_wp2_with fail
  have hb0 : Below w.heap.size w (w.alloc (.cells #[.string ⟨#[]⟩, .string ⟨#[]⟩, .int .i64 0, .slice none 0 0] 53)) := ext_alloc (Below.refl _ _) _
  have r0 : (w.alloc (.cells #[.string ⟨#[]⟩, .string ⟨#[]⟩, .int .i64 0, .slice none 0 0] 53)).cell? ⟨w.heap.size, 0, none⟩ = some (.string ⟨#[]⟩) := by simp
  have r1 : (w.alloc (.cells #[.string ⟨#[]⟩, .string ⟨#[]⟩, .int .i64 0, .slice none 0 0] 53)).cell? ⟨w.heap.size, 1, none⟩ = some (.string ⟨#[]⟩) := by simp
  have r2 : (w.alloc (.cells #[.string ⟨#[]⟩, .string ⟨#[]⟩, .int .i64 0, .slice none 0 0] 53)).cell? ⟨w.heap.size, 2, none⟩ = some (.int .i64 0) := by simp
  have r3 : (w.alloc (.cells #[.string ⟨#[]⟩, .string ⟨#[]⟩, .int .i64 0, .slice none 0 0] 53)).cell? ⟨w.heap.size, 3, none⟩ = some (.slice none 0 0) := by simp
  have f0 : ∀ j, (w.alloc (.cells #[.string ⟨#[]⟩, .string ⟨#[]⟩, .int .i64 0, .slice none 0 0] 53)).frozen? ⟨w.heap.size, j, none⟩ = false := fun j => by simp
  have hS0 := hS.after hb0
  have hsc0 := hsc.later hb0
  have how := Only.later (Only.refl g w) hb0
  have hF0 := hF.below (hb0.mono (by omega) : Below B _ _)
  have hw0 := hw.below (hb0.mono (by omega) : Below g _ _)
  have hz0 : (w.alloc (.cells #[.string ⟨#[]⟩, .string ⟨#[]⟩, .int .i64 0, .slice none 0 0] 53)).heap.size = w.heap.size + 1 := World.size_alloc _ _
  obtain ⟨W0, hW0⟩ : ∃ W0, w.alloc (.cells #[.string ⟨#[]⟩, .string ⟨#[]⟩, .int .i64 0, .slice none 0 0] 53) = W0 := ⟨_, rfl⟩
  rw [hW0] at r0 r1 r2 r3 f0 hS0 hsc0 how hF0 hw0 hz0 ⊢
  obtain ⟨r, hr⟩ : ∃ r, w.heap.size = r := ⟨_, rfl⟩
  rw [hr] at r0 r1 r2 r3 f0 hz0 hgl ⊢
  have hrg : r ≠ g := by omega
  have hrl : r < W0.heap.size := by omega
  have hgW : g < W0.heap.size := by omega
  replace hW0 := hide hW0
  replace hr := hide hr
  replace r0 := hide r0
  replace r1 := hide r1
  replace r2 := hide r2
  replace r3 := hide r3
  replace f0 := hide f0
  clear hsc hF hw hb0 hS
  refine (code_any B g line F fs c 0 none W0 hsc0 hF0 (by omega) (by omega) hB (fun p hp => by cases hp)).mono ?_
  rintro e w1 ⟨k1, t0, pr1, rfl, hs1, ho1, i1, j1, a1, a2⟩
  replace a1 := hide (a1 rfl)
  go_wp2_with fail
  refine (code_any B g line F fs c k1 pr1 w1 hs1 (hF0.only ho1 hB (by omega)) (by omega) (by omega) hB (fun _ _ => i1)).mono ?_
  rintro e w2 ⟨k2, t1, pr2, rfl, hs2, ho2, i2, j2, b1, b2⟩
  replace b1 := hide b1
  replace b2 := hide b2
  replace ho2 : Only g W0 w2 := ho1.trans ho2
  clear hs1 hsc0 ho1 a2
  go_wp2_with fail
  refine (num_anyS B g line F fs c k2 1 pr2 w2 hs2 (hF0.only ho2 hB (by omega)) (by omega) (by omega) hB (fun _ _ => i2) (by decide) (by have := hsz k2; omega)).mono ?_
  rintro e w3 ⟨k3, nn, pr3, rfl, hs3, ho3, i3, j3, c1, c2⟩
  replace c1 := hide c1
  replace c2 := hide c2
  replace ho3 : Only g W0 w3 := ho2.trans ho3
  have hz3 := ho3.size
  have h0z : Hid (t0.size ≤ 9223372036854775807) := hide (by rw [a1.out.2.1]; have := hsz 0; omega)
  clear hs2 ho2
  go_wp2_with fail
  have hb4 : Below w3.heap.size w3 (w3.alloc (.cells #[.string t0, .string t1, .int .i64 (nn : Int), .slice none 0 0] 53)) := ext_alloc (Below.refl _ _) _
  have x0 : (w3.alloc (.cells #[.string t0, .string t1, .int .i64 (nn : Int), .slice none 0 0] 53)).cell? ⟨w3.heap.size, 0, none⟩ = some (.string t0) := by simp
  have x1 : (w3.alloc (.cells #[.string t0, .string t1, .int .i64 (nn : Int), .slice none 0 0] 53)).cell? ⟨w3.heap.size, 1, none⟩ = some (.string t1) := by simp
  have x2 : (w3.alloc (.cells #[.string t0, .string t1, .int .i64 (nn : Int), .slice none 0 0] 53)).cell? ⟨w3.heap.size, 2, none⟩ = some (.int .i64 (nn : Int)) := by simp
  have x3 : (w3.alloc (.cells #[.string t0, .string t1, .int .i64 (nn : Int), .slice none 0 0] 53)).cell? ⟨w3.heap.size, 3, none⟩ = some (.slice none 0 0) := by simp
  have xf : ∀ j, (w3.alloc (.cells #[.string t0, .string t1, .int .i64 (nn : Int), .slice none 0 0] 53)).frozen? ⟨w3.heap.size, j, none⟩ = false := fun j => by simp
  have hz4 : (w3.alloc (.cells #[.string t0, .string t1, .int .i64 (nn : Int), .slice none 0 0] 53)).heap.size = w3.heap.size + 1 := World.size_alloc _ _
  have hs4 := hs3.later hb4
  have ho4 : Only g W0 _ := Only.later ho3 hb4
  obtain ⟨x, hx⟩ : ∃ x, w3.heap.size = x := ⟨_, rfl⟩
  obtain ⟨W4, hW4⟩ : ∃ W4, w3.alloc (.cells #[.string t0, .string t1, .int .i64 (nn : Int), .slice none 0 0] 53) = W4 := ⟨_, rfl⟩
  rw [hW4] at x0 x1 x2 x3 hs4 ho4 hz4 xf ⊢
  rw [hx] at x0 x1 x2 x3 hz4 xf ⊢
  have hxg : x ≠ g := by omega
  have hx4 : x < W4.heap.size := by omega
  have hWx : W0.heap.size ≤ x := by omega
  clear hs3 hb4 ho3 hW4 hx
  refine (list_any B g line F fs c k3 8 pr3 W4 (ho4.std hS0 (by omega)) hs4 (hF0.only ho4 hB (by omega)) (by omega) (by omega) hB hN (fun _ _ => i3) (hsz k3)).mono ?_
  rintro e w5 ⟨k4, l, v, pr4, rfl, hown, hs5, ho5, i4, j4, d1, d2⟩
  replace d1 := hide d1
  replace d2 := hide d2
  have hz5 := ho5.size
  have y0 := (ho5.cell hx4 hxg).trans x0
  have y1 := (ho5.cell hx4 hxg).trans x1
  have y2 := (ho5.cell hx4 hxg).trans x2
  have y3 := (ho5.cell hx4 hxg).trans x3
  have yf3 : w5.frozen? ⟨x, 3, none⟩ = false := (ho5.frozen hx4 hxg).trans (xf 3)
  obtain ⟨A6, c6, rfl⟩ := hown.form
  have z0 : (w5.setCell ⟨x, 3, none⟩ (.slice A6 l.length c6)).cell? ⟨x, 0, none⟩ = some (.string t0) := (World.cell?_setCell_other _ _ _ _ (by simp)).trans y0
  have z1 : (w5.setCell ⟨x, 3, none⟩ (.slice A6 l.length c6)).cell? ⟨x, 1, none⟩ = some (.string t1) := (World.cell?_setCell_other _ _ _ _ (by simp)).trans y1
  have z2 : (w5.setCell ⟨x, 3, none⟩ (.slice A6 l.length c6)).cell? ⟨x, 2, none⟩ = some (.int .i64 (nn : Int)) := (World.cell?_setCell_other _ _ _ _ (by simp)).trans y2
  have z3 : (w5.setCell ⟨x, 3, none⟩ (.slice A6 l.length c6)).cell? ⟨x, 3, none⟩ = some (.slice A6 l.length c6) := World.cell?_setCell_same _ _ _ y3
  have hs6 := scan_set (j := 3) (u := .slice A6 l.length c6) hs5 y0 hxg
  have ho6 : Only g W0 (w5.setCell ⟨x, 3, none⟩ (.slice A6 l.length c6)) := only_setCell (ho4.trans ho5) (Or.inr hWx) _
  have hown6 := hown.noting (only_setCell (Only.refl x w5) (p := ⟨x, 3, none⟩) (Or.inl rfl) (.slice A6 l.length c6)) hx4
  have hF6 := hF0.only ho6 hB (by omega)
  have hw6 := hw0.below (ho6.below (Nat.le_refl _) (by omega))
  obtain ⟨L, hL⟩ : ∃ L, l.length = L := ⟨_, rfl⟩
  obtain ⟨q, hqq⟩ : ∃ q, ls.length = q := ⟨_, rfl⟩
  obtain ⟨nf, hnf⟩ : ∃ nf, (freshS (studs ls)).length = nf := ⟨_, rfl⟩
  obtain ⟨ck, hck⟩ : ∃ ck, countS t0 (studs ls) = ck := ⟨_, rfl⟩
  obtain ⟨M, hMM⟩ : ∃ M, manyQ ls t0 = M := ⟨_, rfl⟩
  have hmany : Hid (M = (decide (400 ≤ q) || (decide (64 ≤ nf) && decide (ck = 0)))) := hide (hMM ▸ many_eq ls t0 q nf ck hqq hnf hck)
  have hhas := hide (fun (W : World) (h : At kReq AnyB W A ls) => qhas_walk A ls cr t0 t1 (nn : Int) A6 L c6 W (by omega) h)
  have hstud := hide (fun (W : World) (h : At kReq AnyB W A ls) => students_walk A ls cr W (by omega) hlz h)
  have hcon := fun (W : World) (h : At kStr AnyB W A6 l) => scontains_walk A6 l c6 t1 W (by have := hown.le; omega) h
  rw [hqq] at hhas hstud ⊢
  have hq9 : q ≤ 1000000000 := by rw [← hqq]; exact hq
  clear hq hlz
  have hcon6 := hcon _ hown6.any'.any
  rw [hL] at z0 z1 z2 z3 hs6 ho6 hown6 hF6 hw6 hcon6 ⊢
  replace hqq := hide hqq
  replace hL := hide hL
  replace hnf := hide hnf
  replace hck := hide hck
  have hzz : g < (w5.setCell ⟨x, 3, none⟩ (.slice A6 L c6)).heap.size := hs6.lt
  obtain ⟨W6, hW6⟩ : ∃ W6, w5.setCell ⟨x, 3, none⟩ (.slice A6 L c6) = W6 := ⟨_, rfl⟩
  have key : Hid (∀ (pr5 prx : Option Prob), noted pr4 (decide (0 ≤ idxS t1 l)) (line, colAt fs k4, 11) = pr5 → noted pr5 (hasQ ls t0 t1) (line, 0, 11) = prx → noted prx M (line, 0, 2) = reqP line fs ls ∧ (reqP line fs ls = none → (t0, t1, (nn : Int), l) = reqOf fs)) := hide fun pr5 prx h1 h2 => by
    rw [← h2, ← hMM]
    exact req_steps a1.out b1.out b2.out c1.out (fun p hp => (c2.out p hp).1) d1.out (fun p hp => (d2.out p hp).1) h1
  obtain ⟨dd, hdd⟩ : ∃ dd, decide (0 ≤ idxS t1 l) = dd := ⟨_, rfl⟩
  rw [hdd] at hcon6 key
  clear hMM hs5 ho5 ho4 hs4 x0 x1 x2 x3 xf hown a1 b1 b2 c1 c2 d1 d2 hdd hcon
  go_upto_region 3 with fail
  rw [hW6] at z0 z1 z2 z3 hs6 ho6 hown6 hF6 hw6 hcon6 hzz
  clear y0 y1 y2 y3 yf3 hW6
  have hx6 := World.block_lt_of_cell? _ _ z0
  have hz6 := ho6.size
  go_wp2_with fail
  refine hcon6.mono ?_
  rintro e w7 ⟨rfl, rfl⟩
  clear hcon6
  obtain ⟨pr5, hpr5⟩ : ∃ pr5, noted pr4 dd (line, colAt fs k4, 11) = pr5 := ⟨_, rfl⟩
  cases dd
  rotate_left
  go_wp2_with fail
  refine (fail_walk B g line F fs c k4 pr4 11 W6 hs6 hF6 i4 (by omega) (by omega)).mono ?_
  rintro e w7 ⟨rfl, hs7, ho7⟩
  replace z0 := (ho7.cell hx6 hxg).trans z0
  replace z1 := (ho7.cell hx6 hxg).trans z1
  replace z2 := (ho7.cell hx6 hxg).trans z2
  replace z3 := (ho7.cell hx6 hxg).trans z3
  replace hw6 := hw6.below (ho7.below (Nat.le_refl _) (by omega))
  replace hown6 := hown6.noting ho7 (by omega)
  replace ho6 : Only g W0 w7 := ho6.trans ho7
  rw [show noted pr4 (decide ((11 : Int) ≠ 0)) (line, colAt fs k4, 11) = pr5 from hpr5] at hs7
  clear hs6 hF6 ho7 hzz
  replace hpr5 := hide hpr5
  go_wp2_with fail
  rotate_left
  obtain ⟨w7, hw7⟩ : ∃ w7, W6 = w7 := ⟨_, rfl⟩
  subst hw7
  have hs7 := hs6
  rw [show pr4 = pr5 from by rw [← hpr5]; cases pr4 <;> rfl] at hs7
  replace hpr5 := hide hpr5
  clear hs6 hF6 hzz
  go_wp2_with fail
  all_goals
    refine (hstud.out _ hw6.any).mono ?_
    rintro e w8 ⟨mb, rfl, -, hcn, hb8⟩
    have hs8 := hs7.later hb8
    have ho8 : Only g W0 w8 := ho6.later hb8
    have hx7 := World.block_lt_of_cell? _ _ z0
    have hg7 := hs7.lt
    replace z0 := cell_later hb8 z0
    replace z1 := cell_later hb8 z1
    replace z2 := cell_later hb8 z2
    replace z3 := cell_later hb8 z3
    replace hown6 := hown6.later hb8
    have hw8 := hw6.below (hb8.mono (by omega) : Below g _ _)
    have hx8 := World.block_lt_of_cell? _ _ z0
    have hlen := fun ty => cnt_len hcn ty
    rw [hnf.out] at hlen
    have hlk := cnt_look hcn t0 h0z.out
    rw [hck.out] at hlk
    clear hs7 ho6 hw6 hb8 hcn hx6 hz6 hx7 hg7
    go_upto_region 6 with fail
    go_cut [7] (fun s7 V => s7 = .bool M ∧ w8 = V)
    case first =>
      clear hs8 ho8 hown6 hw8
      by_cases g1 : 400 ≤ q
      · have g1i : (400 : Int) ≤ (q : Int) := by omega
        have hM : M = true := by rw [hmany.out, decide_eq_true g1]; rfl
        go_wp2_with fail
        go_meet
        exact ⟨by rw [hM], rfl⟩
      · have g1i : ¬ (400 : Int) ≤ (q : Int) := by omega
        by_cases g2 : 64 ≤ nf
        · have g2i : (64 : Int) ≤ (nf : Int) := by omega
          by_cases g3 : ck = 0
          · have g3i : ((ck : Int) == 0) = true := by simp; omega
            have hM : M = true := by rw [hmany.out, decide_eq_false g1, decide_eq_true g2, decide_eq_true g3]; rfl
            go_wp2_with fail
            go_meet
            exact ⟨by rw [hM], rfl⟩
          · have g3i : ((ck : Int) == 0) = false := by simp; omega
            have hM : M = false := by rw [hmany.out, decide_eq_false g1, decide_eq_false g3]; simp
            go_wp2_with fail
            go_meet
            exact ⟨by rw [hM], rfl⟩
        · have g2i : ¬ (64 : Int) ≤ (nf : Int) := by omega
          have hM : M = false := by rw [hmany.out, decide_eq_false g1, decide_eq_false g2]; rfl
          go_wp2_with fail
          go_meet
          exact ⟨by rw [hM], rfl⟩
    case rest =>
      obtain ⟨rfl, rfl⟩ := hcut
      clear hlen hlk
      go_wp2_with fail
      refine (hhas.out _ hw8.any).mono ?_
      rintro e w9 ⟨rfl, hb9⟩
      have hs9 := hs8.later hb9
      have ho9 : Only g W0 w9 := ho8.later hb9
      replace z0 := cell_later hb9 z0
      replace z1 := cell_later hb9 z1
      replace z2 := cell_later hb9 z2
      replace z3 := cell_later hb9 z3
      replace hown6 := hown6.later hb9
      have hx9 := World.block_lt_of_cell? _ _ z0
      clear hs8 ho8 hw8 hb9 hx8
      go_wp2_with fail
      refine (whole_walk g line F fs.length c k4 pr5 _ 11 w9 hs9).mono ?_
      rintro e w10 ⟨rfl, hs10, ho10⟩
      replace z0 := (ho10.cell hx9 hxg).trans z0
      replace z1 := (ho10.cell hx9 hxg).trans z1
      replace z2 := (ho10.cell hx9 hxg).trans z2
      replace z3 := (ho10.cell hx9 hxg).trans z3
      replace hown6 := hown6.noting ho10 (by omega)
      replace ho9 : Only g W0 w10 := ho9.trans ho10
      obtain ⟨prx, hprx⟩ : ∃ prx, noted pr5 (hasQ ls t0 t1) (line, 0, 11) = prx := ⟨_, rfl⟩
      rw [hprx] at hs10
      have hkey := hide (key.out pr5 prx hpr5.out hprx)
      clear hs9 ho10 hx9 hprx
      go_wp2_with fail
      refine (whole_walk g line F fs.length c k4 prx _ 2 w10 hs10).mono ?_
      rintro e w11 ⟨rfl, hs11, ho11⟩
      have hx10 := World.block_lt_of_cell? _ _ z0
      replace z0 := (ho11.cell hx10 hxg).trans z0
      replace z1 := (ho11.cell hx10 hxg).trans z1
      replace z2 := (ho11.cell hx10 hxg).trans z2
      replace z3 := (ho11.cell hx10 hxg).trans z3
      replace hown6 := hown6.noting ho11 (by omega)
      replace ho9 : Only g W0 w11 := ho9.trans ho11
      rw [hkey.out.1] at hs11
      have hfin := hide hkey.out.2
      have rr0 := (ho9.cell hrl hrg).trans r0.out
      have rr1 := (ho9.cell hrl hrg).trans r1.out
      have rr2 := (ho9.cell hrl hrg).trans r2.out
      have rr3 := (ho9.cell hrl hrg).trans r3.out
      have g0 := (ho9.frozen hrl hrg).trans (f0.out 0)
      have g1 := (ho9.frozen hrl hrg).trans (f0.out 1)
      have g2 := (ho9.frozen hrl hrg).trans (f0.out 2)
      have g3 := (ho9.frozen hrl hrg).trans (f0.out 3)
      replace hs11 := hide hs11
      replace ho9 := hide ho9
      clear hs10 ho11 hkey hx10 key hpr5 hmany hhas hstud
      go_wp2
      obtain ⟨d0, d1, d2, d3⟩ := set4q_cells (a := .string t0) (b := .string t1) (c := .int .i64 (nn : Int)) (d := .slice A6 L c6) rr0 rr1 rr2 rr3
      have hro : Only r w11 (set4q w11 r (.string t0) (.string t1) (.int .i64 (nn : Int)) (.slice A6 L c6)) := set4q_only (Only.refl r w11) (Or.inl rfl)
      have hbz : w.heap.size = r := hr.out
      refine end_req rfl r (.string t0) (.string t1) (.int .i64 (nn : Int)) (.slice A6 L c6) rfl rfl d0 d1 d2 d3 ⟨t0, t1, nn, l, _, k4, rfl, ?_, set4q_scan hs11.out rr0 hrg, hfin.out, ?_⟩
      · exact Own.lower (hown6.noting hro (by omega)) (by omega)
      · exact set4q_only (how.trans ho9.out) (Or.inr (Nat.le_of_eq hbz))
end Go.Proofs.YthejgholpkeldaaGreatDoor

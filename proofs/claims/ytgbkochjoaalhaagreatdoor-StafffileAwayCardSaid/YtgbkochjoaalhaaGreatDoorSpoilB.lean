/- Walk of Dice.Spoil: it gives a text of at most one byte more. Conditions: short texts. -/
import Derived.Test.YtgbkochjoaalhaaGreatDoorSpoil
import Derived.Deep.DeepCutAuto
namespace Go.Proofs.YtgbkochjoaalhaaGreatDoor
open Go.RowKit
set_option maxRecDepth 100000

theorem DiceOk.far {B C : Nat} {w w' : World} {g : Nat} (h : DiceOk B w g) (hC : g < C) (hb : Below C w w') : DiceOk B w' g := by
  obtain ⟨hB, A, n, c, k, hg, h1, h2, h3⟩ := h
  refine ⟨hB, A, n, c, k, (hb.block g hC).trans hg, h1, h2, fun hn => ?_⟩
  obtain ⟨b, off, hA, hlt, hc⟩ := h3 hn
  refine ⟨b, off, hA, hlt, fun j hj => ?_⟩
  obtain ⟨x, hx⟩ := hc j hj
  exact ⟨x, (hb.cell (p := ⟨b, off + j, none⟩) (by show b < C; omega)).trans hx⟩
theorem Thrown.far {B : Nat} {a b c : World} {g : Nat} (h : Thrown B a g b) (k : Below a.heap.size b c) : Thrown B a g c :=
  ⟨h.lt, h.dice.far h.lt k, ⟨k.os.trans h.only.os, k.tape.trans h.only.tape, k.output.trans h.only.output, Nat.le_trans h.only.size k.size, fun i hi hne => (k.block i hi).trans (h.only.block i hi hne)⟩⟩
theorem bs_text {B : Nat} {w : World} {g o n cap : Nat} (h : BS B w g o n cap) : ∃ r : ByteArray, r.size = n ∧ ∀ c, (convert 89 9 (.slice (some ⟨g, o, none⟩) n c)).run Tryz.prog w = .ok (.string r) w := by
  obtain ⟨l, hl, hc⟩ := h.list
  subst hl
  exact ⟨⟨l.toArray⟩, by show l.toArray.size = _; simp, fun c => run_convert_bytes_back w 89 9 5 ⟨g, o, none⟩ c l Tryz.underlying89 Tryz.underlying5 Tryz.underlying9 (fun j hj => by
    have hadd : (⟨g, o, none⟩ : Addr).add j = ⟨g, o + j, none⟩ := by simp [Addr.add]
    rw [hadd]; exact hc j hj)⟩
theorem bs_one (w : World) (c : UInt8) : BS w.heap.size (w.alloc (.cells #[.int .u8 (c.toNat : Int)] 5)) w.heap.size 0 1 1 := by
  refine ⟨Nat.le_refl _, Nat.le_refl _, by unfold maxLen; omega, fun j hj => ?_, fun j hj => ?_⟩
  · obtain rfl : j = 0 := by omega
    exact ⟨c, by simp⟩
  · obtain rfl : j = 0 := by omega
    exact ⟨by simp, by simp⟩
theorem BS.lower {B C : Nat} {w : World} {g o n cap : Nat} (h : BS B w g o n cap) (hc : C ≤ B) : BS C w g o n cap := ⟨Nat.le_trans hc h.lo, h.le, h.max, h.cells, h.there⟩
theorem bs_none {B : Nat} {w : World} {g : Nat} (hB : B ≤ g) {o n cap : Nat} (hn : n = 0) (hc : cap = 0) : BS B w g o n cap := by
  subst hn hc; exact ⟨hB, Nat.le_refl _, Nat.zero_le _, fun j hj => by omega, fun j hj => by omega⟩
/-- A slice of the call's own, told with what stays. -/
def Sliced (B n : Nat) (w : World) (g : Nat) (s7 : Value) (w' : World) : Prop := ∃ g2 o2 m c2, s7 = .slice (some ⟨g2, o2, none⟩) m c2 ∧ m ≤ n ∧ BS w.heap.size w' g2 o2 m c2 ∧ Thrown B w g w'
def Spoils (B : Nat) (n : Nat) (w : World) (g : Nat) (e : Ending) (w' : World) : Prop := ∃ r : ByteArray, e = .returned (.string r) ∧ r.size ≤ n ∧ Thrown B w g w'
set_option maxHeartbeats 8000000 in
theorem spoil_walk (B g : Nat) (s z : ByteArray) (hz1 : 1 ≤ z.size) (hz2 : z.size ≤ 1000) (hs : s.size ≤ 1000) (w : World) (h : DiceOk B w g) :
    Calls Tryz.prog 24 #[.pointer (some ⟨g, 0, none⟩), .string s, .string z] w fun e w' => Spoils B (s.size + 1) w g e w' := by
  have kc := fun W : World => Lib.run_convert_string_bytes (P := Tryz.prog) W 9 89 5 s Tryz.underlying9 Tryz.underlying89 Tryz.underlying5
  have hlt := h.lt
  have hbs := bs_bytes w s (by omega)
  have hbw := Joins.below_bytesWorld w.heap.size w 5 s (Nat.le_refl _)
  have kw := kc w
  clear kc
  obtain ⟨cap, hcap⟩ : ∃ cap, grownCap w s.size 0 5 = cap := ⟨_, rfl⟩
  obtain ⟨W1, hW1⟩ : ∃ W1, Lib.bytesWorld w 5 s = W1 := ⟨_, rfl⟩
  rw [hcap, hW1] at kw
  rw [hcap, hW1] at hbs
  rw [hW1] at hbw
  clear hcap hW1
  have hT := (Thrown.refl h).later hbw
  go_enter Tryz.func24, Tryz.ntmps24
  go_wp2_with fail
  refine (next_walk B g _ (by omega) _ hT.dice).mono ?_
  rintro e w2 ⟨v, rfl, p1, q1, -, T2, -⟩
  have q1 := q1 (by omega)
  replace hT := hT.trans T2
  replace hbs := hbs.thrown T2 hlt
  clear T2 kw hbw
  obtain ⟨v, rfl⟩ := Int.eq_ofNat_of_zero_le p1
  have hv : v < z.size := by omega
  by_cases h0 : s.size = 0
  · have e0 : ((s.size : Int) == 0) = true := by rw [h0]; rfl
    have kc1 : ∀ c, (convert 89 9 (.slice (some ⟨w2.heap.size, 0, none⟩) 1 c)).run Tryz.prog (w2.alloc (.cells #[.int .u8 ((z[v]'hv).toNat : Int)] 5)) = .ok (.string ⟨[z[v]'hv].toArray⟩) (w2.alloc (.cells #[.int .u8 ((z[v]'hv).toNat : Int)] 5)) := fun c =>
      run_convert_bytes_back _ 89 9 5 ⟨w2.heap.size, 0, none⟩ c [z[v]'hv] Tryz.underlying89 Tryz.underlying5 Tryz.underlying9 (by
        intro j hj
        have hj : j = 0 := by simp at hj; omega
        subst hj
        simp [Addr.add])
    go_wp2_with fail
    go_ret
    exact ⟨_, rfl, by show 1 ≤ _; omega, hT.far (ext_alloc (Below.refl _ _) _ |>.mono hT.size)⟩
  · have e0 : ((s.size : Int) == 0) = false := by rw [beq_eq_false_iff_ne]; omega
    go_wp2_with fail
    refine (next_walk B g _ (by omega) _ hT.dice).mono ?_
    rintro e w3 ⟨k, rfl, p2, q2, -, T3, -⟩
    have q2 := q2 (by omega)
    replace hT := hT.trans T3
    replace hbs := hbs.thrown T3 hlt
    clear T3
    obtain ⟨k, rfl⟩ := Int.eq_ofNat_of_zero_le p2
    have hk : k < s.size := by omega
    go_wp2_with fail
    refine (next_walk B g 3 (by omega) _ hT.dice).mono ?_
    rintro e w4 ⟨u, rfl, p3, q3, -, T4, -⟩
    have q3 := q3 (by omega)
    replace hT := hT.trans T4
    replace hbs := hbs.thrown T4 hlt
    clear T4
    have hu : u = 0 ∨ u = 1 ∨ u = 2 := by omega
    have hcl := hbs.le
    have hcm := hbs.max
    unfold maxLen at hcm
    obtain ⟨c0, hc0⟩ : ∃ c0 : UInt8, z[v]'hv = c0 := ⟨_, rfl⟩
    rw [hc0]
    clear p1 q1 p2 q2 p3 q3 hc0
    rcases hu with rfl | rfl | rfl
    · obtain ⟨x, hx⟩ := hbs.cells k hk
      rw [Nat.zero_add] at hx
      have hfz := (hbs.there k (by omega)).2
      rw [Nat.zero_add] at hfz
      have hb2 := hbs.set k c0 hk
      rw [Nat.zero_add] at hb2
      obtain ⟨r, hr, kc2⟩ := bs_text hb2
      replace hr := hide hr
      have k0 : (0 : Int) ≤ k := by omega
      go_wp2_with fail
      go_ret
      exact ⟨r, rfl, by rw [hr.out]; omega, hT.far (Below.setCell (Below.refl _ _) (by show w.heap.size ≤ w.heap.size; exact Nat.le_refl _) _)⟩
    · go_upto_region 11 with fail
      have k0 : (0 : Int) ≤ k := by omega
      have k1 : (k : Int) ≤ cap := by omega
      have k2 : (k : Int) + 1 ≤ s.size := by omega
      have k3 : (0 : Int) ≤ (k : Int) + 1 := by omega
      have k4 : (s.size : Int) ≤ cap := by omega
      have kw : IntKind.i64.wrap ((k : Int) + 1) = (k : Int) + 1 := IntWalk.i64_in _ (by omega)
      have hbd := hbs.later (ext_drew (Below.refl _ _))
      have hdr : BS w.heap.size w4.drew w.heap.size (k + 1) (s.size - (k + 1)) (cap - (k + 1)) := by have := hbd.drop (k := k + 1) (by omega); rwa [Nat.zero_add] at this
      have htk := hbd.take (k := k) (by omega)
      have hpi : 0 < s.size := by omega
      by_cases hkc : k + 1 < cap
      · go_region_law ((refine step_bs_room rfl (.tmp 50) (.tmp 54) rfl (by simp [Act.eval, Act.put]) htk (by simp [Act.eval, Act.put]; omega) hdr (by omega) ?_; intro w' h1 h2))
        all_goals
          obtain ⟨r, hr, kc2⟩ := bs_text h1
          replace hr := hide hr
          go_wp2_with fail
          go_ret
          exact ⟨r, rfl, by rw [hr.out]; omega, hT.far (((ext_drew (Below.refl _ _)).mono hT.size).trans h2)⟩
      · have hd0 : BS w.heap.size w4.drew w.heap.size 0 (s.size - (k + 1)) (cap - (k + 1)) := bs_none (Nat.le_refl _) (by omega) (by omega)
        go_region_law ((refine step_bs_room rfl (.tmp 50) (.tmp 54) rfl (by simp [Act.eval, Act.put]) htk (by simp [Act.eval, Act.put]; omega) hd0 (by omega) ?_; intro w' h1 h2))
        all_goals
          obtain ⟨r, hr, kc2⟩ := bs_text h1
          replace hr := hide hr
          go_wp2_with fail
          go_ret
          exact ⟨r, rfl, by rw [hr.out]; omega, hT.far (((ext_drew (Below.refl _ _)).mono hT.size).trans h2)⟩
    · go_upto_region 7 with fail
      have k0 : (0 : Int) ≤ k := by omega
      have k1 : (k : Int) ≤ cap := by omega
      have k2 : (k : Int) ≤ s.size := by omega
      have k4 : (s.size : Int) ≤ cap := by omega
      have hwz := hT.size
      have hbo : Below w4.heap.size w4 ((w4.alloc (.cells #[.int .u8 (c0.toNat : Int)] 5)).drew) := ext_drew (ext_alloc (Below.refl _ _) _)
      have hone : BS w4.heap.size ((w4.alloc (.cells #[.int .u8 (c0.toNat : Int)] 5)).drew) w4.heap.size 0 1 1 := (bs_one w4 c0).later (ext_drew (Below.refl _ _))
      have hbd := hbs.later hbo
      have hdk : BS w.heap.size ((w4.alloc (.cells #[.int .u8 (c0.toNat : Int)] 5)).drew) w.heap.size k (s.size - k) (cap - k) := by have := hbd.drop (k := k) (by omega); rwa [Nat.zero_add] at this
      have htk := hbd.take (k := k) (by omega)
      have hso : w.heap.size ≤ ((w4.alloc (.cells #[.int .u8 (c0.toNat : Int)] 5)).drew).heap.size := Nat.le_trans hT.size hbo.size
      clear hbs
      by_cases hroom : s.size + 1 ≤ cap
      · go_region_law (first | (refine step_bs_grows rfl (.tmp 34) (.tmp 37) rfl (by simp [Act.eval]) hone (by simp [Act.eval]; omega) hdk (by omega) (by omega) ?_; intro g2 c2 w' h1 h2; have ht2 := BS.later htk h2; have hsz := h2.size) | (refine step_bs_room rfl (.tmp 32) (.tmp 38) rfl (by simp [Act.eval]) ht2 (by simp [Act.eval]) h1 (by omega) ?_; intro w'' h3 h4))
        all_goals
          obtain ⟨r, hr, kc2⟩ := bs_text h3
          replace hr := hide hr
          go_wp2_with fail
          go_ret
          exact ⟨r, rfl, by rw [hr.out]; omega, hT.far ((hbo.mono hT.size).trans ((h2.mono hso).trans h4))⟩
      · go_region_law (first | (refine step_bs_grows rfl (.tmp 34) (.tmp 37) rfl (by simp [Act.eval]) hone (by simp [Act.eval]; omega) hdk (by omega) (by omega) ?_; intro g2 c2 w' h1 h2; have ht2 := BS.later htk h2; have hsz := h2.size) | (refine step_bs_grows rfl (.tmp 32) (.tmp 38) rfl (by simp [Act.eval]) ht2 (by simp [Act.eval]) h1 (by omega) (by omega) ?_; intro g3 c3 w'' h3 h4))
        all_goals
          obtain ⟨r, hr, kc2⟩ := bs_text h3
          replace hr := hide hr
          go_wp2_with fail
          go_ret
          exact ⟨r, rfl, by rw [hr.out]; omega, hT.far ((hbo.mono hT.size).trans ((h2.mono hso).trans (h4.mono (Nat.le_trans hso hsz))))⟩
end Go.Proofs.YtgbkochjoaalhaaGreatDoor

/- The plain law of TimegridReturns: the text of a time is read as the time. No walk. Some cells that are known in a world, and what keeps them. No condition. Eighteen cells that are known in a world. No condition. Walks of timetableref02.SameStrings and SameLists, where both hold the same. Conditions: the cells. -/
import Derived.Test.YtnbcaklnpflihaaGreatDoorKTgH
import Derived.Test.YtnbcaklnpflihaaGreatDoorKTgG
import Derived.Deep.RegionHeld3
import Derived.Deep.DeepCutAuto
import Derived.RegionTactic
import Derived.BigRegion
namespace Go.Proofs.YtnbcaklnpflihaaGreatDoor

theorem dec2_all : ∀ k : Nat, k < 30 → 1 ≤ k → numL (dec2 k) = some k ∧ 45 ∉ dec2 k ∧ 32 ∉ dec2 k := by decide +kernel
theorem slotT_facts {p q : Nat} (hq : 1 ≤ q) (hpq : p + q ≤ 24) : 32 ∉ slotT p q ∧ slotsFrom (slotT p q) = p + 1 ∧ slotsTo (slotT p q) = p + q ∧ slotsOk (slotT p q) = true := by
  obtain ⟨a1, a2, a3⟩ := dec2_all (p + 1) (by omega) (by omega)
  obtain ⟨b1, b2, b3⟩ := dec2_all (p + q) (by omega) (by omega)
  have va : numV (dec2 (p + 1)) = p + 1 := by simp [numV, a1]
  have oa : numOk (dec2 (p + 1)) = true := by simp [numOk, a1]
  have vb : numV (dec2 (p + q)) = p + q := by simp [numV, b1]
  have ob : numOk (dec2 (p + q)) = true := by simp [numOk, b1]
  unfold slotsFrom slotsTo slotsOk slotsZ slotT
  by_cases h : 1 < q
  · rw [if_pos h, cut_eq, cut1_of 45 _ a2]
    refine ⟨?_, va, vb, by simp [oa, ob]⟩
    simp only [List.mem_append, List.mem_cons, not_or]
    exact ⟨a3, by decide, b3⟩
  · have : q = 1 := by omega
    subst this
    rw [if_neg (by omega), List.append_nil, cut_eq, cut1_miss 45 _ a2]
    exact ⟨a3, va, va, by simp [oa]⟩
theorem dayB_facts : ∀ k : Nat, k < 7 → 32 ∉ (dayB k).data.toList ∧ dayI (dayB k) = (k : Int) := by decide
theorem join_notin (c : UInt8) : ∀ (xs : List (List UInt8)), c ≠ 44 → (∀ x ∈ xs, c ∉ x) → c ∉ Lib.join xs [44]
  | [], _, _ => by simp [Lib.join_nil]
  | [x], _, h => by rw [Lib.join_one]; exact h x (by simp)
  | x :: y :: r, hc, h => by
    have : Lib.join (x :: y :: r) [44] = x ++ 44 :: Lib.join (y :: r) [44] := by simp [Lib.join, List.intercalate]
    rw [this]
    simp only [List.mem_append, List.mem_cons, not_or]
    exact ⟨h x (by simp), hc, join_notin c (y :: r) hc (fun z hz => h z (by simp [hz]))⟩
theorem runT_no32 {a b : Nat} (h1 : 1 ≤ a) (h2 : a < 30) (h3 : 1 ≤ b) (h4 : b < 30) : 32 ∉ runT (a, b) := by
  have ha := (dec2_all a h2 h1).2.2
  have hb := (dec2_all b h4 h3).2.2
  unfold runT
  split
  · exact ha
  · simp only [List.mem_append, List.mem_cons, not_or]
    exact ⟨ha, by decide, hb⟩
theorem wordName_no32 : ∀ k : Nat, k < 5 → 32 ∉ wordName k := by decide
theorem formatL_no32 {s n : Nat} (hn : n ≤ 20) : 32 ∉ formatL s n := by
  unfold formatL
  refine join_notin 32 _ (by decide) (fun x hx => ?_)
  unfold itemsT at hx
  by_cases h : nameIdx s n < 5
  · rw [if_pos h] at hx
    obtain rfl := List.mem_singleton.1 hx
    exact wordName_no32 _ h
  · rw [if_neg h] at hx
    obtain ⟨⟨a, b⟩, hr, rfl⟩ := List.mem_map.1 hx
    have := (runs_facts s.testBit n _ 1 (Nat.le_refl _) (Nat.le_refl _)).1 _ hr
    dsimp only at this
    exact runT_no32 (by omega) (by omega) (by omega) (by omega)
theorem map_data_inj : ∀ {xs ys : List ByteArray}, xs.map (·.data.toList) = ys.map (·.data.toList) → xs = ys
  | [], [], _ => rfl
  | [], _ :: _, h => by simp at h
  | _ :: _, [], h => by simp at h
  | x :: xs, y :: ys, h => by
    simp only [List.map_cons, List.cons.injEq] at h
    rw [map_data_inj h.2]
    congr 1
    apply ByteArray.ext
    exact Array.toList_inj.1 h.1
theorem split_text (s : ByteArray) (zs : List ByteArray) (h : splitOn1 32 s.data.toList = zs.map (·.data.toList)) : Lib.splitB ⟨#[32]⟩ 0 (Lib.countB s ⟨#[32]⟩) s = zs :=
  map_data_inj ((splitB_one 32 s).trans h)
/-- The text of a time is read as the time. -/
theorem parse_time {d s b m : Int} {N a k p q : Nat} (hw : weekB d s b m N = true) (hN1 : 1 ≤ N) (hN : N ≤ 20) (ha0 : 1 ≤ a) (ha : a < 2 ^ N) (hk : k < 7) (hkd : (k : Int) < d) (hq : 1 ≤ q) (hpq : p + q ≤ 24) (hps : (p : Int) + q ≤ s) :
    parseT d s b m N (Lib.splitB ⟨#[32]⟩ 0 (Lib.countB ⟨(timeT N a k p q).toArray⟩ ⟨#[32]⟩) ⟨(timeT N a k p q).toArray⟩) = ((a : Int), (k : Int), (p : Int), (q : Int), 0) := by
  obtain ⟨d1, d2⟩ := dayB_facts k hk
  obtain ⟨s1, s2, s3, s4⟩ := slotT_facts hq hpq
  have hsz : (⟨(slotT p q).toArray⟩ : ByteArray).size ≠ 0 := slotsOk_size (y := ⟨(slotT p q).toArray⟩) s4
  have hy : (⟨(slotT p q).toArray⟩ : ByteArray).data.toList = slotT p q := rfl
  by_cases hall : a = 2 ^ N - 1
  · have hz := split_text ⟨(timeT N a k p q).toArray⟩ [dayB k, ⟨(slotT p q).toArray⟩] (by
      show splitOn1 32 (timeT N a k p q) = [(dayB k).data.toList, slotT p q]
      unfold timeT
      rw [if_pos hall, List.append_nil, splitOn1_join 32 _ d1, splitOn1_none 32 _ s1])
    rw [hz]
    have he : slotE d s (dayB k) ⟨(slotT p q).toArray⟩ ⟨(slotT p q).toArray⟩ = 0 := slotE_0 (by omega) (by rw [hy]; exact s4) hsz (by rw [hy, s2, s3, d2]; omega)
    rw [parseT2_ok hw he, hy, s2, s3, d2]
    refine Prod.ext ?_ (Prod.ext rfl (Prod.ext ?_ (Prod.ext ?_ rfl)))
    · show (2 : Int) ^ (N : Int).toNat - 1 = (a : Int)
      have h1 := Nat.one_le_two_pow (n := N)
      rw [Int.toNat_natCast, hall]
      have : ((2 ^ N - 1 : Nat) : Int) = ((2 ^ N : Nat) : Int) - 1 := by omega
      rw [this]; simp
    · show ((p + 1 : Nat) : Int) - 1 = (p : Int); omega
    · show ((p + q : Nat) : Int) - ((p + 1 : Nat) : Int) + 1 = (q : Int); omega
  · have hfz : (⟨(formatL a N).toArray⟩ : ByteArray).size ≠ 0 := by
      intro e
      have hp := parse_format hN1 hN ha (by omega : a ≠ 0)
      have hl : formatL a N = [] := List.eq_nil_of_length_eq_zero (by simpa [ByteArray.size] using e)
      rw [hl] at hp
      have : parseV ⟨#[]⟩ (N : Int) = (0, 4) ∨ (parseV ⟨#[]⟩ (N : Int)).1 = 0 := by
        right
        unfold parseV
        rw [if_neg (by omega), Int.toNat_natCast]
        show (itemsV N [[]] 0).1 = 0
        rw [itemsV_cons]
        have : itemV [] N = (0, 4) := rfl
        rw [this]; rfl
      have h1 := congrArg Prod.fst hp
      dsimp only at h1
      rcases this with h | h
      · have := congrArg Prod.fst h
        dsimp only at this
        omega
      · have : (parseV ⟨#[]⟩ (N : Int)).1 = a := h1
        omega
    have hz := split_text ⟨(timeT N a k p q).toArray⟩ [dayB k, ⟨(slotT p q).toArray⟩, ⟨(formatL a N).toArray⟩] (by
      show splitOn1 32 (timeT N a k p q) = [(dayB k).data.toList, slotT p q, formatL a N]
      unfold timeT
      rw [if_neg hall, List.append_assoc, List.cons_append, splitOn1_join 32 _ d1, splitOn1_join 32 _ s1, splitOn1_none 32 _ (formatL_no32 hN)])
    rw [hz]
    have he : slotE d s (dayB k) ⟨(slotT p q).toArray⟩ ⟨(formatL a N).toArray⟩ = 0 := slotE_0 (by omega) (by rw [hy]; exact s4) hfz (by rw [hy, s2, s3, d2]; omega)
    have hpv := parse_format hN1 hN ha (by omega : a ≠ 0)
    rw [parseT3_ok hw he (by rw [hpv]), hpv, hy, s2, s3, d2]
    refine Prod.ext rfl (Prod.ext rfl (Prod.ext ?_ (Prod.ext ?_ rfl)))
    · show ((p + 1 : Nat) : Int) - 1 = (p : Int); omega
    · show ((p + q : Nat) : Int) - ((p + 1 : Nat) : Int) + 1 = (q : Int); omega
theorem timeT_len {n a k p q : Nat} (hn : n ≤ 20) : (timeT n a k p q).length ≤ 200 := by
  have h1 := dayB_size k
  have h2 := dec2_len (p + 1)
  have h3 := dec2_len (p + q)
  have h4 := formatL_len a n hn
  rw [← ba_len] at h1
  unfold timeT slotT
  split <;> split <;> simp only [List.length_append, List.length_cons, List.length_nil] <;> omega
end Go.Proofs.YtnbcaklnpflihaaGreatDoor

namespace Go.Proofs.YtnbcaklnpflihaaGreatDoor
open Go.RowKit
set_option maxRecDepth 100000

theorem cell_set_other {W : World} {b o c i : Nat} {v : Value} (h : W.cell? ⟨b, o, none⟩ = some v) (hne : b ≠ c) (u : Value) : (W.setCell ⟨c, i, none⟩ u).cell? ⟨b, o, none⟩ = some v :=
  (World.cell?_setCell_other _ _ _ _ (fun e => hne (by injection e with e1; exact e1.symm))).trans h
theorem cell_grown {W W' : World} {b o : Nat} {v x : Value} (h : W.cell? ⟨b, o, none⟩ = some v) (hg : W.grownBy W' x.ownBlock) (hne : some b ≠ x.ownBlock) : W'.cell? ⟨b, o, none⟩ = some v := hg.cell h hne
theorem cell_only {W W' : World} {b o g : Nat} {v : Value} (h : W.cell? ⟨b, o, none⟩ = some v) (hg : Only g W W') (hne : b ≠ g) : W'.cell? ⟨b, o, none⟩ = some v := World.grownBy.cell hg h (fun e => hne (by injection e))
theorem cell_lt {W : World} {b o : Nat} {v : Value} (h : W.cell? ⟨b, o, none⟩ = some v) : b < W.heap.size := World.block_lt_of_cell? _ _ h
abbrev Cn1 (b1 o1 : Nat) (v1 : Value) (W : World) : Prop := W.cell? ⟨b1, o1, none⟩ = some v1
section
variable {b1 o1 : Nat} {v1 : Value} {W W' : World}
theorem Cn1.later (h : Cn1 b1 o1 v1 W) (hb : Below W.heap.size W W') : Cn1 b1 o1 v1 W' := cell_later hb h
theorem Cn1.alloc (h : Cn1 b1 o1 v1 W) (o : Obj) : Cn1 b1 o1 v1 (W.alloc o) := cell_alloc_of h o
theorem Cn1.drew (h : Cn1 b1 o1 v1 W) : Cn1 b1 o1 v1 W.drew := h
theorem Cn1.set {c i : Nat} (h : Cn1 b1 o1 v1 W) (h1 : b1 ≠ c) (u : Value) : Cn1 b1 o1 v1 (W.setCell ⟨c, i, none⟩ u) := cell_set_other h h1 u
theorem Cn1.grown {x : Value} (h : Cn1 b1 o1 v1 W) (hg : W.grownBy W' x.ownBlock) (h1 : some b1 ≠ x.ownBlock) : Cn1 b1 o1 v1 W' := cell_grown h hg h1
theorem Cn1.only {g : Nat} (h : Cn1 b1 o1 v1 W) (hg : Only g W W') (h1 : b1 ≠ g) : Cn1 b1 o1 v1 W' := cell_only h hg h1
end
abbrev Cn2 (b1 o1 : Nat) (v1 : Value) (b2 o2 : Nat) (v2 : Value) (W : World) : Prop := W.cell? ⟨b1, o1, none⟩ = some v1 ∧ W.cell? ⟨b2, o2, none⟩ = some v2
section
variable {b1 o1 b2 o2 : Nat} {v1 v2 : Value} {W W' : World}
theorem Cn2.later (h : Cn2 b1 o1 v1 b2 o2 v2 W) (hb : Below W.heap.size W W') : Cn2 b1 o1 v1 b2 o2 v2 W' := ⟨cell_later hb h.1, cell_later hb h.2⟩
theorem Cn2.alloc (h : Cn2 b1 o1 v1 b2 o2 v2 W) (o : Obj) : Cn2 b1 o1 v1 b2 o2 v2 (W.alloc o) := ⟨cell_alloc_of h.1 o, cell_alloc_of h.2 o⟩
theorem Cn2.drew (h : Cn2 b1 o1 v1 b2 o2 v2 W) : Cn2 b1 o1 v1 b2 o2 v2 W.drew := h
theorem Cn2.set {c i : Nat} (h : Cn2 b1 o1 v1 b2 o2 v2 W) (h1 : b1 ≠ c) (h2 : b2 ≠ c) (u : Value) : Cn2 b1 o1 v1 b2 o2 v2 (W.setCell ⟨c, i, none⟩ u) := ⟨cell_set_other h.1 h1 u, cell_set_other h.2 h2 u⟩
theorem Cn2.grown {x : Value} (h : Cn2 b1 o1 v1 b2 o2 v2 W) (hg : W.grownBy W' x.ownBlock) (h1 : some b1 ≠ x.ownBlock) (h2 : some b2 ≠ x.ownBlock) : Cn2 b1 o1 v1 b2 o2 v2 W' := ⟨cell_grown h.1 hg h1, cell_grown h.2 hg h2⟩
theorem Cn2.only {g : Nat} (h : Cn2 b1 o1 v1 b2 o2 v2 W) (hg : Only g W W') (h1 : b1 ≠ g) (h2 : b2 ≠ g) : Cn2 b1 o1 v1 b2 o2 v2 W' := ⟨cell_only h.1 hg h1, cell_only h.2 hg h2⟩
end
abbrev Cn3 (b1 o1 : Nat) (v1 : Value) (b2 o2 : Nat) (v2 : Value) (b3 o3 : Nat) (v3 : Value) (W : World) : Prop := W.cell? ⟨b1, o1, none⟩ = some v1 ∧ W.cell? ⟨b2, o2, none⟩ = some v2 ∧ W.cell? ⟨b3, o3, none⟩ = some v3
section
variable {b1 o1 b2 o2 b3 o3 : Nat} {v1 v2 v3 : Value} {W W' : World}
theorem Cn3.later (h : Cn3 b1 o1 v1 b2 o2 v2 b3 o3 v3 W) (hb : Below W.heap.size W W') : Cn3 b1 o1 v1 b2 o2 v2 b3 o3 v3 W' := ⟨cell_later hb h.1, cell_later hb h.2.1, cell_later hb h.2.2⟩
theorem Cn3.alloc (h : Cn3 b1 o1 v1 b2 o2 v2 b3 o3 v3 W) (o : Obj) : Cn3 b1 o1 v1 b2 o2 v2 b3 o3 v3 (W.alloc o) := ⟨cell_alloc_of h.1 o, cell_alloc_of h.2.1 o, cell_alloc_of h.2.2 o⟩
theorem Cn3.drew (h : Cn3 b1 o1 v1 b2 o2 v2 b3 o3 v3 W) : Cn3 b1 o1 v1 b2 o2 v2 b3 o3 v3 W.drew := h
theorem Cn3.set {c i : Nat} (h : Cn3 b1 o1 v1 b2 o2 v2 b3 o3 v3 W) (h1 : b1 ≠ c) (h2 : b2 ≠ c) (h3 : b3 ≠ c) (u : Value) : Cn3 b1 o1 v1 b2 o2 v2 b3 o3 v3 (W.setCell ⟨c, i, none⟩ u) := ⟨cell_set_other h.1 h1 u, cell_set_other h.2.1 h2 u, cell_set_other h.2.2 h3 u⟩
theorem Cn3.grown {x : Value} (h : Cn3 b1 o1 v1 b2 o2 v2 b3 o3 v3 W) (hg : W.grownBy W' x.ownBlock) (h1 : some b1 ≠ x.ownBlock) (h2 : some b2 ≠ x.ownBlock) (h3 : some b3 ≠ x.ownBlock) : Cn3 b1 o1 v1 b2 o2 v2 b3 o3 v3 W' := ⟨cell_grown h.1 hg h1, cell_grown h.2.1 hg h2, cell_grown h.2.2 hg h3⟩
theorem Cn3.only {g : Nat} (h : Cn3 b1 o1 v1 b2 o2 v2 b3 o3 v3 W) (hg : Only g W W') (h1 : b1 ≠ g) (h2 : b2 ≠ g) (h3 : b3 ≠ g) : Cn3 b1 o1 v1 b2 o2 v2 b3 o3 v3 W' := ⟨cell_only h.1 hg h1, cell_only h.2.1 hg h2, cell_only h.2.2 hg h3⟩
end
abbrev Cn4 (b1 o1 : Nat) (v1 : Value) (b2 o2 : Nat) (v2 : Value) (b3 o3 : Nat) (v3 : Value) (b4 o4 : Nat) (v4 : Value) (W : World) : Prop := W.cell? ⟨b1, o1, none⟩ = some v1 ∧ W.cell? ⟨b2, o2, none⟩ = some v2 ∧ W.cell? ⟨b3, o3, none⟩ = some v3 ∧ W.cell? ⟨b4, o4, none⟩ = some v4
section
variable {b1 o1 b2 o2 b3 o3 b4 o4 : Nat} {v1 v2 v3 v4 : Value} {W W' : World}
theorem Cn4.later (h : Cn4 b1 o1 v1 b2 o2 v2 b3 o3 v3 b4 o4 v4 W) (hb : Below W.heap.size W W') : Cn4 b1 o1 v1 b2 o2 v2 b3 o3 v3 b4 o4 v4 W' := ⟨cell_later hb h.1, cell_later hb h.2.1, cell_later hb h.2.2.1, cell_later hb h.2.2.2⟩
theorem Cn4.alloc (h : Cn4 b1 o1 v1 b2 o2 v2 b3 o3 v3 b4 o4 v4 W) (o : Obj) : Cn4 b1 o1 v1 b2 o2 v2 b3 o3 v3 b4 o4 v4 (W.alloc o) := ⟨cell_alloc_of h.1 o, cell_alloc_of h.2.1 o, cell_alloc_of h.2.2.1 o, cell_alloc_of h.2.2.2 o⟩
theorem Cn4.drew (h : Cn4 b1 o1 v1 b2 o2 v2 b3 o3 v3 b4 o4 v4 W) : Cn4 b1 o1 v1 b2 o2 v2 b3 o3 v3 b4 o4 v4 W.drew := h
theorem Cn4.set {c i : Nat} (h : Cn4 b1 o1 v1 b2 o2 v2 b3 o3 v3 b4 o4 v4 W) (h1 : b1 ≠ c) (h2 : b2 ≠ c) (h3 : b3 ≠ c) (h4 : b4 ≠ c) (u : Value) : Cn4 b1 o1 v1 b2 o2 v2 b3 o3 v3 b4 o4 v4 (W.setCell ⟨c, i, none⟩ u) := ⟨cell_set_other h.1 h1 u, cell_set_other h.2.1 h2 u, cell_set_other h.2.2.1 h3 u, cell_set_other h.2.2.2 h4 u⟩
theorem Cn4.grown {x : Value} (h : Cn4 b1 o1 v1 b2 o2 v2 b3 o3 v3 b4 o4 v4 W) (hg : W.grownBy W' x.ownBlock) (h1 : some b1 ≠ x.ownBlock) (h2 : some b2 ≠ x.ownBlock) (h3 : some b3 ≠ x.ownBlock) (h4 : some b4 ≠ x.ownBlock) : Cn4 b1 o1 v1 b2 o2 v2 b3 o3 v3 b4 o4 v4 W' := ⟨cell_grown h.1 hg h1, cell_grown h.2.1 hg h2, cell_grown h.2.2.1 hg h3, cell_grown h.2.2.2 hg h4⟩
theorem Cn4.only {g : Nat} (h : Cn4 b1 o1 v1 b2 o2 v2 b3 o3 v3 b4 o4 v4 W) (hg : Only g W W') (h1 : b1 ≠ g) (h2 : b2 ≠ g) (h3 : b3 ≠ g) (h4 : b4 ≠ g) : Cn4 b1 o1 v1 b2 o2 v2 b3 o3 v3 b4 o4 v4 W' := ⟨cell_only h.1 hg h1, cell_only h.2.1 hg h2, cell_only h.2.2.1 hg h3, cell_only h.2.2.2 hg h4⟩
end
abbrev Cn5 (b1 o1 : Nat) (v1 : Value) (b2 o2 : Nat) (v2 : Value) (b3 o3 : Nat) (v3 : Value) (b4 o4 : Nat) (v4 : Value) (b5 o5 : Nat) (v5 : Value) (W : World) : Prop := W.cell? ⟨b1, o1, none⟩ = some v1 ∧ W.cell? ⟨b2, o2, none⟩ = some v2 ∧ W.cell? ⟨b3, o3, none⟩ = some v3 ∧ W.cell? ⟨b4, o4, none⟩ = some v4 ∧ W.cell? ⟨b5, o5, none⟩ = some v5
section
variable {b1 o1 b2 o2 b3 o3 b4 o4 b5 o5 : Nat} {v1 v2 v3 v4 v5 : Value} {W W' : World}
theorem Cn5.later (h : Cn5 b1 o1 v1 b2 o2 v2 b3 o3 v3 b4 o4 v4 b5 o5 v5 W) (hb : Below W.heap.size W W') : Cn5 b1 o1 v1 b2 o2 v2 b3 o3 v3 b4 o4 v4 b5 o5 v5 W' := ⟨cell_later hb h.1, cell_later hb h.2.1, cell_later hb h.2.2.1, cell_later hb h.2.2.2.1, cell_later hb h.2.2.2.2⟩
theorem Cn5.alloc (h : Cn5 b1 o1 v1 b2 o2 v2 b3 o3 v3 b4 o4 v4 b5 o5 v5 W) (o : Obj) : Cn5 b1 o1 v1 b2 o2 v2 b3 o3 v3 b4 o4 v4 b5 o5 v5 (W.alloc o) := ⟨cell_alloc_of h.1 o, cell_alloc_of h.2.1 o, cell_alloc_of h.2.2.1 o, cell_alloc_of h.2.2.2.1 o, cell_alloc_of h.2.2.2.2 o⟩
theorem Cn5.drew (h : Cn5 b1 o1 v1 b2 o2 v2 b3 o3 v3 b4 o4 v4 b5 o5 v5 W) : Cn5 b1 o1 v1 b2 o2 v2 b3 o3 v3 b4 o4 v4 b5 o5 v5 W.drew := h
theorem Cn5.set {c i : Nat} (h : Cn5 b1 o1 v1 b2 o2 v2 b3 o3 v3 b4 o4 v4 b5 o5 v5 W) (h1 : b1 ≠ c) (h2 : b2 ≠ c) (h3 : b3 ≠ c) (h4 : b4 ≠ c) (h5 : b5 ≠ c) (u : Value) : Cn5 b1 o1 v1 b2 o2 v2 b3 o3 v3 b4 o4 v4 b5 o5 v5 (W.setCell ⟨c, i, none⟩ u) := ⟨cell_set_other h.1 h1 u, cell_set_other h.2.1 h2 u, cell_set_other h.2.2.1 h3 u, cell_set_other h.2.2.2.1 h4 u, cell_set_other h.2.2.2.2 h5 u⟩
theorem Cn5.grown {x : Value} (h : Cn5 b1 o1 v1 b2 o2 v2 b3 o3 v3 b4 o4 v4 b5 o5 v5 W) (hg : W.grownBy W' x.ownBlock) (h1 : some b1 ≠ x.ownBlock) (h2 : some b2 ≠ x.ownBlock) (h3 : some b3 ≠ x.ownBlock) (h4 : some b4 ≠ x.ownBlock) (h5 : some b5 ≠ x.ownBlock) : Cn5 b1 o1 v1 b2 o2 v2 b3 o3 v3 b4 o4 v4 b5 o5 v5 W' := ⟨cell_grown h.1 hg h1, cell_grown h.2.1 hg h2, cell_grown h.2.2.1 hg h3, cell_grown h.2.2.2.1 hg h4, cell_grown h.2.2.2.2 hg h5⟩
theorem Cn5.only {g : Nat} (h : Cn5 b1 o1 v1 b2 o2 v2 b3 o3 v3 b4 o4 v4 b5 o5 v5 W) (hg : Only g W W') (h1 : b1 ≠ g) (h2 : b2 ≠ g) (h3 : b3 ≠ g) (h4 : b4 ≠ g) (h5 : b5 ≠ g) : Cn5 b1 o1 v1 b2 o2 v2 b3 o3 v3 b4 o4 v4 b5 o5 v5 W' := ⟨cell_only h.1 hg h1, cell_only h.2.1 hg h2, cell_only h.2.2.1 hg h3, cell_only h.2.2.2.1 hg h4, cell_only h.2.2.2.2 hg h5⟩
end
abbrev Cn6 (b1 o1 : Nat) (v1 : Value) (b2 o2 : Nat) (v2 : Value) (b3 o3 : Nat) (v3 : Value) (b4 o4 : Nat) (v4 : Value) (b5 o5 : Nat) (v5 : Value) (b6 o6 : Nat) (v6 : Value) (W : World) : Prop := W.cell? ⟨b1, o1, none⟩ = some v1 ∧ W.cell? ⟨b2, o2, none⟩ = some v2 ∧ W.cell? ⟨b3, o3, none⟩ = some v3 ∧ W.cell? ⟨b4, o4, none⟩ = some v4 ∧ W.cell? ⟨b5, o5, none⟩ = some v5 ∧ W.cell? ⟨b6, o6, none⟩ = some v6
section
variable {b1 o1 b2 o2 b3 o3 b4 o4 b5 o5 b6 o6 : Nat} {v1 v2 v3 v4 v5 v6 : Value} {W W' : World}
theorem Cn6.later (h : Cn6 b1 o1 v1 b2 o2 v2 b3 o3 v3 b4 o4 v4 b5 o5 v5 b6 o6 v6 W) (hb : Below W.heap.size W W') : Cn6 b1 o1 v1 b2 o2 v2 b3 o3 v3 b4 o4 v4 b5 o5 v5 b6 o6 v6 W' := ⟨cell_later hb h.1, cell_later hb h.2.1, cell_later hb h.2.2.1, cell_later hb h.2.2.2.1, cell_later hb h.2.2.2.2.1, cell_later hb h.2.2.2.2.2⟩
theorem Cn6.alloc (h : Cn6 b1 o1 v1 b2 o2 v2 b3 o3 v3 b4 o4 v4 b5 o5 v5 b6 o6 v6 W) (o : Obj) : Cn6 b1 o1 v1 b2 o2 v2 b3 o3 v3 b4 o4 v4 b5 o5 v5 b6 o6 v6 (W.alloc o) := ⟨cell_alloc_of h.1 o, cell_alloc_of h.2.1 o, cell_alloc_of h.2.2.1 o, cell_alloc_of h.2.2.2.1 o, cell_alloc_of h.2.2.2.2.1 o, cell_alloc_of h.2.2.2.2.2 o⟩
theorem Cn6.drew (h : Cn6 b1 o1 v1 b2 o2 v2 b3 o3 v3 b4 o4 v4 b5 o5 v5 b6 o6 v6 W) : Cn6 b1 o1 v1 b2 o2 v2 b3 o3 v3 b4 o4 v4 b5 o5 v5 b6 o6 v6 W.drew := h
theorem Cn6.set {c i : Nat} (h : Cn6 b1 o1 v1 b2 o2 v2 b3 o3 v3 b4 o4 v4 b5 o5 v5 b6 o6 v6 W) (h1 : b1 ≠ c) (h2 : b2 ≠ c) (h3 : b3 ≠ c) (h4 : b4 ≠ c) (h5 : b5 ≠ c) (h6 : b6 ≠ c) (u : Value) : Cn6 b1 o1 v1 b2 o2 v2 b3 o3 v3 b4 o4 v4 b5 o5 v5 b6 o6 v6 (W.setCell ⟨c, i, none⟩ u) := ⟨cell_set_other h.1 h1 u, cell_set_other h.2.1 h2 u, cell_set_other h.2.2.1 h3 u, cell_set_other h.2.2.2.1 h4 u, cell_set_other h.2.2.2.2.1 h5 u, cell_set_other h.2.2.2.2.2 h6 u⟩
theorem Cn6.grown {x : Value} (h : Cn6 b1 o1 v1 b2 o2 v2 b3 o3 v3 b4 o4 v4 b5 o5 v5 b6 o6 v6 W) (hg : W.grownBy W' x.ownBlock) (h1 : some b1 ≠ x.ownBlock) (h2 : some b2 ≠ x.ownBlock) (h3 : some b3 ≠ x.ownBlock) (h4 : some b4 ≠ x.ownBlock) (h5 : some b5 ≠ x.ownBlock) (h6 : some b6 ≠ x.ownBlock) : Cn6 b1 o1 v1 b2 o2 v2 b3 o3 v3 b4 o4 v4 b5 o5 v5 b6 o6 v6 W' := ⟨cell_grown h.1 hg h1, cell_grown h.2.1 hg h2, cell_grown h.2.2.1 hg h3, cell_grown h.2.2.2.1 hg h4, cell_grown h.2.2.2.2.1 hg h5, cell_grown h.2.2.2.2.2 hg h6⟩
theorem Cn6.only {g : Nat} (h : Cn6 b1 o1 v1 b2 o2 v2 b3 o3 v3 b4 o4 v4 b5 o5 v5 b6 o6 v6 W) (hg : Only g W W') (h1 : b1 ≠ g) (h2 : b2 ≠ g) (h3 : b3 ≠ g) (h4 : b4 ≠ g) (h5 : b5 ≠ g) (h6 : b6 ≠ g) : Cn6 b1 o1 v1 b2 o2 v2 b3 o3 v3 b4 o4 v4 b5 o5 v5 b6 o6 v6 W' := ⟨cell_only h.1 hg h1, cell_only h.2.1 hg h2, cell_only h.2.2.1 hg h3, cell_only h.2.2.2.1 hg h4, cell_only h.2.2.2.2.1 hg h5, cell_only h.2.2.2.2.2 hg h6⟩
end
abbrev Cn7 (b1 o1 : Nat) (v1 : Value) (b2 o2 : Nat) (v2 : Value) (b3 o3 : Nat) (v3 : Value) (b4 o4 : Nat) (v4 : Value) (b5 o5 : Nat) (v5 : Value) (b6 o6 : Nat) (v6 : Value) (b7 o7 : Nat) (v7 : Value) (W : World) : Prop := W.cell? ⟨b1, o1, none⟩ = some v1 ∧ W.cell? ⟨b2, o2, none⟩ = some v2 ∧ W.cell? ⟨b3, o3, none⟩ = some v3 ∧ W.cell? ⟨b4, o4, none⟩ = some v4 ∧ W.cell? ⟨b5, o5, none⟩ = some v5 ∧ W.cell? ⟨b6, o6, none⟩ = some v6 ∧ W.cell? ⟨b7, o7, none⟩ = some v7
section
variable {b1 o1 b2 o2 b3 o3 b4 o4 b5 o5 b6 o6 b7 o7 : Nat} {v1 v2 v3 v4 v5 v6 v7 : Value} {W W' : World}
theorem Cn7.later (h : Cn7 b1 o1 v1 b2 o2 v2 b3 o3 v3 b4 o4 v4 b5 o5 v5 b6 o6 v6 b7 o7 v7 W) (hb : Below W.heap.size W W') : Cn7 b1 o1 v1 b2 o2 v2 b3 o3 v3 b4 o4 v4 b5 o5 v5 b6 o6 v6 b7 o7 v7 W' := ⟨cell_later hb h.1, cell_later hb h.2.1, cell_later hb h.2.2.1, cell_later hb h.2.2.2.1, cell_later hb h.2.2.2.2.1, cell_later hb h.2.2.2.2.2.1, cell_later hb h.2.2.2.2.2.2⟩
theorem Cn7.alloc (h : Cn7 b1 o1 v1 b2 o2 v2 b3 o3 v3 b4 o4 v4 b5 o5 v5 b6 o6 v6 b7 o7 v7 W) (o : Obj) : Cn7 b1 o1 v1 b2 o2 v2 b3 o3 v3 b4 o4 v4 b5 o5 v5 b6 o6 v6 b7 o7 v7 (W.alloc o) := ⟨cell_alloc_of h.1 o, cell_alloc_of h.2.1 o, cell_alloc_of h.2.2.1 o, cell_alloc_of h.2.2.2.1 o, cell_alloc_of h.2.2.2.2.1 o, cell_alloc_of h.2.2.2.2.2.1 o, cell_alloc_of h.2.2.2.2.2.2 o⟩
theorem Cn7.drew (h : Cn7 b1 o1 v1 b2 o2 v2 b3 o3 v3 b4 o4 v4 b5 o5 v5 b6 o6 v6 b7 o7 v7 W) : Cn7 b1 o1 v1 b2 o2 v2 b3 o3 v3 b4 o4 v4 b5 o5 v5 b6 o6 v6 b7 o7 v7 W.drew := h
theorem Cn7.set {c i : Nat} (h : Cn7 b1 o1 v1 b2 o2 v2 b3 o3 v3 b4 o4 v4 b5 o5 v5 b6 o6 v6 b7 o7 v7 W) (h1 : b1 ≠ c) (h2 : b2 ≠ c) (h3 : b3 ≠ c) (h4 : b4 ≠ c) (h5 : b5 ≠ c) (h6 : b6 ≠ c) (h7 : b7 ≠ c) (u : Value) : Cn7 b1 o1 v1 b2 o2 v2 b3 o3 v3 b4 o4 v4 b5 o5 v5 b6 o6 v6 b7 o7 v7 (W.setCell ⟨c, i, none⟩ u) := ⟨cell_set_other h.1 h1 u, cell_set_other h.2.1 h2 u, cell_set_other h.2.2.1 h3 u, cell_set_other h.2.2.2.1 h4 u, cell_set_other h.2.2.2.2.1 h5 u, cell_set_other h.2.2.2.2.2.1 h6 u, cell_set_other h.2.2.2.2.2.2 h7 u⟩
theorem Cn7.grown {x : Value} (h : Cn7 b1 o1 v1 b2 o2 v2 b3 o3 v3 b4 o4 v4 b5 o5 v5 b6 o6 v6 b7 o7 v7 W) (hg : W.grownBy W' x.ownBlock) (h1 : some b1 ≠ x.ownBlock) (h2 : some b2 ≠ x.ownBlock) (h3 : some b3 ≠ x.ownBlock) (h4 : some b4 ≠ x.ownBlock) (h5 : some b5 ≠ x.ownBlock) (h6 : some b6 ≠ x.ownBlock) (h7 : some b7 ≠ x.ownBlock) : Cn7 b1 o1 v1 b2 o2 v2 b3 o3 v3 b4 o4 v4 b5 o5 v5 b6 o6 v6 b7 o7 v7 W' := ⟨cell_grown h.1 hg h1, cell_grown h.2.1 hg h2, cell_grown h.2.2.1 hg h3, cell_grown h.2.2.2.1 hg h4, cell_grown h.2.2.2.2.1 hg h5, cell_grown h.2.2.2.2.2.1 hg h6, cell_grown h.2.2.2.2.2.2 hg h7⟩
theorem Cn7.only {g : Nat} (h : Cn7 b1 o1 v1 b2 o2 v2 b3 o3 v3 b4 o4 v4 b5 o5 v5 b6 o6 v6 b7 o7 v7 W) (hg : Only g W W') (h1 : b1 ≠ g) (h2 : b2 ≠ g) (h3 : b3 ≠ g) (h4 : b4 ≠ g) (h5 : b5 ≠ g) (h6 : b6 ≠ g) (h7 : b7 ≠ g) : Cn7 b1 o1 v1 b2 o2 v2 b3 o3 v3 b4 o4 v4 b5 o5 v5 b6 o6 v6 b7 o7 v7 W' := ⟨cell_only h.1 hg h1, cell_only h.2.1 hg h2, cell_only h.2.2.1 hg h3, cell_only h.2.2.2.1 hg h4, cell_only h.2.2.2.2.1 hg h5, cell_only h.2.2.2.2.2.1 hg h6, cell_only h.2.2.2.2.2.2 hg h7⟩
end
abbrev Cn8 (b1 o1 : Nat) (v1 : Value) (b2 o2 : Nat) (v2 : Value) (b3 o3 : Nat) (v3 : Value) (b4 o4 : Nat) (v4 : Value) (b5 o5 : Nat) (v5 : Value) (b6 o6 : Nat) (v6 : Value) (b7 o7 : Nat) (v7 : Value) (b8 o8 : Nat) (v8 : Value) (W : World) : Prop := W.cell? ⟨b1, o1, none⟩ = some v1 ∧ W.cell? ⟨b2, o2, none⟩ = some v2 ∧ W.cell? ⟨b3, o3, none⟩ = some v3 ∧ W.cell? ⟨b4, o4, none⟩ = some v4 ∧ W.cell? ⟨b5, o5, none⟩ = some v5 ∧ W.cell? ⟨b6, o6, none⟩ = some v6 ∧ W.cell? ⟨b7, o7, none⟩ = some v7 ∧ W.cell? ⟨b8, o8, none⟩ = some v8
section
variable {b1 o1 b2 o2 b3 o3 b4 o4 b5 o5 b6 o6 b7 o7 b8 o8 : Nat} {v1 v2 v3 v4 v5 v6 v7 v8 : Value} {W W' : World}
theorem Cn8.later (h : Cn8 b1 o1 v1 b2 o2 v2 b3 o3 v3 b4 o4 v4 b5 o5 v5 b6 o6 v6 b7 o7 v7 b8 o8 v8 W) (hb : Below W.heap.size W W') : Cn8 b1 o1 v1 b2 o2 v2 b3 o3 v3 b4 o4 v4 b5 o5 v5 b6 o6 v6 b7 o7 v7 b8 o8 v8 W' := ⟨cell_later hb h.1, cell_later hb h.2.1, cell_later hb h.2.2.1, cell_later hb h.2.2.2.1, cell_later hb h.2.2.2.2.1, cell_later hb h.2.2.2.2.2.1, cell_later hb h.2.2.2.2.2.2.1, cell_later hb h.2.2.2.2.2.2.2⟩
theorem Cn8.alloc (h : Cn8 b1 o1 v1 b2 o2 v2 b3 o3 v3 b4 o4 v4 b5 o5 v5 b6 o6 v6 b7 o7 v7 b8 o8 v8 W) (o : Obj) : Cn8 b1 o1 v1 b2 o2 v2 b3 o3 v3 b4 o4 v4 b5 o5 v5 b6 o6 v6 b7 o7 v7 b8 o8 v8 (W.alloc o) := ⟨cell_alloc_of h.1 o, cell_alloc_of h.2.1 o, cell_alloc_of h.2.2.1 o, cell_alloc_of h.2.2.2.1 o, cell_alloc_of h.2.2.2.2.1 o, cell_alloc_of h.2.2.2.2.2.1 o, cell_alloc_of h.2.2.2.2.2.2.1 o, cell_alloc_of h.2.2.2.2.2.2.2 o⟩
theorem Cn8.drew (h : Cn8 b1 o1 v1 b2 o2 v2 b3 o3 v3 b4 o4 v4 b5 o5 v5 b6 o6 v6 b7 o7 v7 b8 o8 v8 W) : Cn8 b1 o1 v1 b2 o2 v2 b3 o3 v3 b4 o4 v4 b5 o5 v5 b6 o6 v6 b7 o7 v7 b8 o8 v8 W.drew := h
theorem Cn8.set {c i : Nat} (h : Cn8 b1 o1 v1 b2 o2 v2 b3 o3 v3 b4 o4 v4 b5 o5 v5 b6 o6 v6 b7 o7 v7 b8 o8 v8 W) (h1 : b1 ≠ c) (h2 : b2 ≠ c) (h3 : b3 ≠ c) (h4 : b4 ≠ c) (h5 : b5 ≠ c) (h6 : b6 ≠ c) (h7 : b7 ≠ c) (h8 : b8 ≠ c) (u : Value) : Cn8 b1 o1 v1 b2 o2 v2 b3 o3 v3 b4 o4 v4 b5 o5 v5 b6 o6 v6 b7 o7 v7 b8 o8 v8 (W.setCell ⟨c, i, none⟩ u) := ⟨cell_set_other h.1 h1 u, cell_set_other h.2.1 h2 u, cell_set_other h.2.2.1 h3 u, cell_set_other h.2.2.2.1 h4 u, cell_set_other h.2.2.2.2.1 h5 u, cell_set_other h.2.2.2.2.2.1 h6 u, cell_set_other h.2.2.2.2.2.2.1 h7 u, cell_set_other h.2.2.2.2.2.2.2 h8 u⟩
theorem Cn8.grown {x : Value} (h : Cn8 b1 o1 v1 b2 o2 v2 b3 o3 v3 b4 o4 v4 b5 o5 v5 b6 o6 v6 b7 o7 v7 b8 o8 v8 W) (hg : W.grownBy W' x.ownBlock) (h1 : some b1 ≠ x.ownBlock) (h2 : some b2 ≠ x.ownBlock) (h3 : some b3 ≠ x.ownBlock) (h4 : some b4 ≠ x.ownBlock) (h5 : some b5 ≠ x.ownBlock) (h6 : some b6 ≠ x.ownBlock) (h7 : some b7 ≠ x.ownBlock) (h8 : some b8 ≠ x.ownBlock) : Cn8 b1 o1 v1 b2 o2 v2 b3 o3 v3 b4 o4 v4 b5 o5 v5 b6 o6 v6 b7 o7 v7 b8 o8 v8 W' := ⟨cell_grown h.1 hg h1, cell_grown h.2.1 hg h2, cell_grown h.2.2.1 hg h3, cell_grown h.2.2.2.1 hg h4, cell_grown h.2.2.2.2.1 hg h5, cell_grown h.2.2.2.2.2.1 hg h6, cell_grown h.2.2.2.2.2.2.1 hg h7, cell_grown h.2.2.2.2.2.2.2 hg h8⟩
theorem Cn8.only {g : Nat} (h : Cn8 b1 o1 v1 b2 o2 v2 b3 o3 v3 b4 o4 v4 b5 o5 v5 b6 o6 v6 b7 o7 v7 b8 o8 v8 W) (hg : Only g W W') (h1 : b1 ≠ g) (h2 : b2 ≠ g) (h3 : b3 ≠ g) (h4 : b4 ≠ g) (h5 : b5 ≠ g) (h6 : b6 ≠ g) (h7 : b7 ≠ g) (h8 : b8 ≠ g) : Cn8 b1 o1 v1 b2 o2 v2 b3 o3 v3 b4 o4 v4 b5 o5 v5 b6 o6 v6 b7 o7 v7 b8 o8 v8 W' := ⟨cell_only h.1 hg h1, cell_only h.2.1 hg h2, cell_only h.2.2.1 hg h3, cell_only h.2.2.2.1 hg h4, cell_only h.2.2.2.2.1 hg h5, cell_only h.2.2.2.2.2.1 hg h6, cell_only h.2.2.2.2.2.2.1 hg h7, cell_only h.2.2.2.2.2.2.2 hg h8⟩
end
abbrev Cn9 (b1 o1 : Nat) (v1 : Value) (b2 o2 : Nat) (v2 : Value) (b3 o3 : Nat) (v3 : Value) (b4 o4 : Nat) (v4 : Value) (b5 o5 : Nat) (v5 : Value) (b6 o6 : Nat) (v6 : Value) (b7 o7 : Nat) (v7 : Value) (b8 o8 : Nat) (v8 : Value) (b9 o9 : Nat) (v9 : Value) (W : World) : Prop := W.cell? ⟨b1, o1, none⟩ = some v1 ∧ W.cell? ⟨b2, o2, none⟩ = some v2 ∧ W.cell? ⟨b3, o3, none⟩ = some v3 ∧ W.cell? ⟨b4, o4, none⟩ = some v4 ∧ W.cell? ⟨b5, o5, none⟩ = some v5 ∧ W.cell? ⟨b6, o6, none⟩ = some v6 ∧ W.cell? ⟨b7, o7, none⟩ = some v7 ∧ W.cell? ⟨b8, o8, none⟩ = some v8 ∧ W.cell? ⟨b9, o9, none⟩ = some v9
section
variable {b1 o1 b2 o2 b3 o3 b4 o4 b5 o5 b6 o6 b7 o7 b8 o8 b9 o9 : Nat} {v1 v2 v3 v4 v5 v6 v7 v8 v9 : Value} {W W' : World}
theorem Cn9.later (h : Cn9 b1 o1 v1 b2 o2 v2 b3 o3 v3 b4 o4 v4 b5 o5 v5 b6 o6 v6 b7 o7 v7 b8 o8 v8 b9 o9 v9 W) (hb : Below W.heap.size W W') : Cn9 b1 o1 v1 b2 o2 v2 b3 o3 v3 b4 o4 v4 b5 o5 v5 b6 o6 v6 b7 o7 v7 b8 o8 v8 b9 o9 v9 W' := ⟨cell_later hb h.1, cell_later hb h.2.1, cell_later hb h.2.2.1, cell_later hb h.2.2.2.1, cell_later hb h.2.2.2.2.1, cell_later hb h.2.2.2.2.2.1, cell_later hb h.2.2.2.2.2.2.1, cell_later hb h.2.2.2.2.2.2.2.1, cell_later hb h.2.2.2.2.2.2.2.2⟩
theorem Cn9.alloc (h : Cn9 b1 o1 v1 b2 o2 v2 b3 o3 v3 b4 o4 v4 b5 o5 v5 b6 o6 v6 b7 o7 v7 b8 o8 v8 b9 o9 v9 W) (o : Obj) : Cn9 b1 o1 v1 b2 o2 v2 b3 o3 v3 b4 o4 v4 b5 o5 v5 b6 o6 v6 b7 o7 v7 b8 o8 v8 b9 o9 v9 (W.alloc o) := ⟨cell_alloc_of h.1 o, cell_alloc_of h.2.1 o, cell_alloc_of h.2.2.1 o, cell_alloc_of h.2.2.2.1 o, cell_alloc_of h.2.2.2.2.1 o, cell_alloc_of h.2.2.2.2.2.1 o, cell_alloc_of h.2.2.2.2.2.2.1 o, cell_alloc_of h.2.2.2.2.2.2.2.1 o, cell_alloc_of h.2.2.2.2.2.2.2.2 o⟩
theorem Cn9.drew (h : Cn9 b1 o1 v1 b2 o2 v2 b3 o3 v3 b4 o4 v4 b5 o5 v5 b6 o6 v6 b7 o7 v7 b8 o8 v8 b9 o9 v9 W) : Cn9 b1 o1 v1 b2 o2 v2 b3 o3 v3 b4 o4 v4 b5 o5 v5 b6 o6 v6 b7 o7 v7 b8 o8 v8 b9 o9 v9 W.drew := h
theorem Cn9.set {c i : Nat} (h : Cn9 b1 o1 v1 b2 o2 v2 b3 o3 v3 b4 o4 v4 b5 o5 v5 b6 o6 v6 b7 o7 v7 b8 o8 v8 b9 o9 v9 W) (h1 : b1 ≠ c) (h2 : b2 ≠ c) (h3 : b3 ≠ c) (h4 : b4 ≠ c) (h5 : b5 ≠ c) (h6 : b6 ≠ c) (h7 : b7 ≠ c) (h8 : b8 ≠ c) (h9 : b9 ≠ c) (u : Value) : Cn9 b1 o1 v1 b2 o2 v2 b3 o3 v3 b4 o4 v4 b5 o5 v5 b6 o6 v6 b7 o7 v7 b8 o8 v8 b9 o9 v9 (W.setCell ⟨c, i, none⟩ u) := ⟨cell_set_other h.1 h1 u, cell_set_other h.2.1 h2 u, cell_set_other h.2.2.1 h3 u, cell_set_other h.2.2.2.1 h4 u, cell_set_other h.2.2.2.2.1 h5 u, cell_set_other h.2.2.2.2.2.1 h6 u, cell_set_other h.2.2.2.2.2.2.1 h7 u, cell_set_other h.2.2.2.2.2.2.2.1 h8 u, cell_set_other h.2.2.2.2.2.2.2.2 h9 u⟩
theorem Cn9.grown {x : Value} (h : Cn9 b1 o1 v1 b2 o2 v2 b3 o3 v3 b4 o4 v4 b5 o5 v5 b6 o6 v6 b7 o7 v7 b8 o8 v8 b9 o9 v9 W) (hg : W.grownBy W' x.ownBlock) (h1 : some b1 ≠ x.ownBlock) (h2 : some b2 ≠ x.ownBlock) (h3 : some b3 ≠ x.ownBlock) (h4 : some b4 ≠ x.ownBlock) (h5 : some b5 ≠ x.ownBlock) (h6 : some b6 ≠ x.ownBlock) (h7 : some b7 ≠ x.ownBlock) (h8 : some b8 ≠ x.ownBlock) (h9 : some b9 ≠ x.ownBlock) : Cn9 b1 o1 v1 b2 o2 v2 b3 o3 v3 b4 o4 v4 b5 o5 v5 b6 o6 v6 b7 o7 v7 b8 o8 v8 b9 o9 v9 W' := ⟨cell_grown h.1 hg h1, cell_grown h.2.1 hg h2, cell_grown h.2.2.1 hg h3, cell_grown h.2.2.2.1 hg h4, cell_grown h.2.2.2.2.1 hg h5, cell_grown h.2.2.2.2.2.1 hg h6, cell_grown h.2.2.2.2.2.2.1 hg h7, cell_grown h.2.2.2.2.2.2.2.1 hg h8, cell_grown h.2.2.2.2.2.2.2.2 hg h9⟩
theorem Cn9.only {g : Nat} (h : Cn9 b1 o1 v1 b2 o2 v2 b3 o3 v3 b4 o4 v4 b5 o5 v5 b6 o6 v6 b7 o7 v7 b8 o8 v8 b9 o9 v9 W) (hg : Only g W W') (h1 : b1 ≠ g) (h2 : b2 ≠ g) (h3 : b3 ≠ g) (h4 : b4 ≠ g) (h5 : b5 ≠ g) (h6 : b6 ≠ g) (h7 : b7 ≠ g) (h8 : b8 ≠ g) (h9 : b9 ≠ g) : Cn9 b1 o1 v1 b2 o2 v2 b3 o3 v3 b4 o4 v4 b5 o5 v5 b6 o6 v6 b7 o7 v7 b8 o8 v8 b9 o9 v9 W' := ⟨cell_only h.1 hg h1, cell_only h.2.1 hg h2, cell_only h.2.2.1 hg h3, cell_only h.2.2.2.1 hg h4, cell_only h.2.2.2.2.1 hg h5, cell_only h.2.2.2.2.2.1 hg h6, cell_only h.2.2.2.2.2.2.1 hg h7, cell_only h.2.2.2.2.2.2.2.1 hg h8, cell_only h.2.2.2.2.2.2.2.2 hg h9⟩
end
abbrev Cn10 (b1 o1 : Nat) (v1 : Value) (b2 o2 : Nat) (v2 : Value) (b3 o3 : Nat) (v3 : Value) (b4 o4 : Nat) (v4 : Value) (b5 o5 : Nat) (v5 : Value) (b6 o6 : Nat) (v6 : Value) (b7 o7 : Nat) (v7 : Value) (b8 o8 : Nat) (v8 : Value) (b9 o9 : Nat) (v9 : Value) (b10 o10 : Nat) (v10 : Value) (W : World) : Prop := W.cell? ⟨b1, o1, none⟩ = some v1 ∧ W.cell? ⟨b2, o2, none⟩ = some v2 ∧ W.cell? ⟨b3, o3, none⟩ = some v3 ∧ W.cell? ⟨b4, o4, none⟩ = some v4 ∧ W.cell? ⟨b5, o5, none⟩ = some v5 ∧ W.cell? ⟨b6, o6, none⟩ = some v6 ∧ W.cell? ⟨b7, o7, none⟩ = some v7 ∧ W.cell? ⟨b8, o8, none⟩ = some v8 ∧ W.cell? ⟨b9, o9, none⟩ = some v9 ∧ W.cell? ⟨b10, o10, none⟩ = some v10
section
variable {b1 o1 b2 o2 b3 o3 b4 o4 b5 o5 b6 o6 b7 o7 b8 o8 b9 o9 b10 o10 : Nat} {v1 v2 v3 v4 v5 v6 v7 v8 v9 v10 : Value} {W W' : World}
theorem Cn10.later (h : Cn10 b1 o1 v1 b2 o2 v2 b3 o3 v3 b4 o4 v4 b5 o5 v5 b6 o6 v6 b7 o7 v7 b8 o8 v8 b9 o9 v9 b10 o10 v10 W) (hb : Below W.heap.size W W') : Cn10 b1 o1 v1 b2 o2 v2 b3 o3 v3 b4 o4 v4 b5 o5 v5 b6 o6 v6 b7 o7 v7 b8 o8 v8 b9 o9 v9 b10 o10 v10 W' := ⟨cell_later hb h.1, cell_later hb h.2.1, cell_later hb h.2.2.1, cell_later hb h.2.2.2.1, cell_later hb h.2.2.2.2.1, cell_later hb h.2.2.2.2.2.1, cell_later hb h.2.2.2.2.2.2.1, cell_later hb h.2.2.2.2.2.2.2.1, cell_later hb h.2.2.2.2.2.2.2.2.1, cell_later hb h.2.2.2.2.2.2.2.2.2⟩
theorem Cn10.alloc (h : Cn10 b1 o1 v1 b2 o2 v2 b3 o3 v3 b4 o4 v4 b5 o5 v5 b6 o6 v6 b7 o7 v7 b8 o8 v8 b9 o9 v9 b10 o10 v10 W) (o : Obj) : Cn10 b1 o1 v1 b2 o2 v2 b3 o3 v3 b4 o4 v4 b5 o5 v5 b6 o6 v6 b7 o7 v7 b8 o8 v8 b9 o9 v9 b10 o10 v10 (W.alloc o) := ⟨cell_alloc_of h.1 o, cell_alloc_of h.2.1 o, cell_alloc_of h.2.2.1 o, cell_alloc_of h.2.2.2.1 o, cell_alloc_of h.2.2.2.2.1 o, cell_alloc_of h.2.2.2.2.2.1 o, cell_alloc_of h.2.2.2.2.2.2.1 o, cell_alloc_of h.2.2.2.2.2.2.2.1 o, cell_alloc_of h.2.2.2.2.2.2.2.2.1 o, cell_alloc_of h.2.2.2.2.2.2.2.2.2 o⟩
theorem Cn10.drew (h : Cn10 b1 o1 v1 b2 o2 v2 b3 o3 v3 b4 o4 v4 b5 o5 v5 b6 o6 v6 b7 o7 v7 b8 o8 v8 b9 o9 v9 b10 o10 v10 W) : Cn10 b1 o1 v1 b2 o2 v2 b3 o3 v3 b4 o4 v4 b5 o5 v5 b6 o6 v6 b7 o7 v7 b8 o8 v8 b9 o9 v9 b10 o10 v10 W.drew := h
theorem Cn10.set {c i : Nat} (h : Cn10 b1 o1 v1 b2 o2 v2 b3 o3 v3 b4 o4 v4 b5 o5 v5 b6 o6 v6 b7 o7 v7 b8 o8 v8 b9 o9 v9 b10 o10 v10 W) (h1 : b1 ≠ c) (h2 : b2 ≠ c) (h3 : b3 ≠ c) (h4 : b4 ≠ c) (h5 : b5 ≠ c) (h6 : b6 ≠ c) (h7 : b7 ≠ c) (h8 : b8 ≠ c) (h9 : b9 ≠ c) (h10 : b10 ≠ c) (u : Value) : Cn10 b1 o1 v1 b2 o2 v2 b3 o3 v3 b4 o4 v4 b5 o5 v5 b6 o6 v6 b7 o7 v7 b8 o8 v8 b9 o9 v9 b10 o10 v10 (W.setCell ⟨c, i, none⟩ u) := ⟨cell_set_other h.1 h1 u, cell_set_other h.2.1 h2 u, cell_set_other h.2.2.1 h3 u, cell_set_other h.2.2.2.1 h4 u, cell_set_other h.2.2.2.2.1 h5 u, cell_set_other h.2.2.2.2.2.1 h6 u, cell_set_other h.2.2.2.2.2.2.1 h7 u, cell_set_other h.2.2.2.2.2.2.2.1 h8 u, cell_set_other h.2.2.2.2.2.2.2.2.1 h9 u, cell_set_other h.2.2.2.2.2.2.2.2.2 h10 u⟩
theorem Cn10.grown {x : Value} (h : Cn10 b1 o1 v1 b2 o2 v2 b3 o3 v3 b4 o4 v4 b5 o5 v5 b6 o6 v6 b7 o7 v7 b8 o8 v8 b9 o9 v9 b10 o10 v10 W) (hg : W.grownBy W' x.ownBlock) (h1 : some b1 ≠ x.ownBlock) (h2 : some b2 ≠ x.ownBlock) (h3 : some b3 ≠ x.ownBlock) (h4 : some b4 ≠ x.ownBlock) (h5 : some b5 ≠ x.ownBlock) (h6 : some b6 ≠ x.ownBlock) (h7 : some b7 ≠ x.ownBlock) (h8 : some b8 ≠ x.ownBlock) (h9 : some b9 ≠ x.ownBlock) (h10 : some b10 ≠ x.ownBlock) : Cn10 b1 o1 v1 b2 o2 v2 b3 o3 v3 b4 o4 v4 b5 o5 v5 b6 o6 v6 b7 o7 v7 b8 o8 v8 b9 o9 v9 b10 o10 v10 W' := ⟨cell_grown h.1 hg h1, cell_grown h.2.1 hg h2, cell_grown h.2.2.1 hg h3, cell_grown h.2.2.2.1 hg h4, cell_grown h.2.2.2.2.1 hg h5, cell_grown h.2.2.2.2.2.1 hg h6, cell_grown h.2.2.2.2.2.2.1 hg h7, cell_grown h.2.2.2.2.2.2.2.1 hg h8, cell_grown h.2.2.2.2.2.2.2.2.1 hg h9, cell_grown h.2.2.2.2.2.2.2.2.2 hg h10⟩
theorem Cn10.only {g : Nat} (h : Cn10 b1 o1 v1 b2 o2 v2 b3 o3 v3 b4 o4 v4 b5 o5 v5 b6 o6 v6 b7 o7 v7 b8 o8 v8 b9 o9 v9 b10 o10 v10 W) (hg : Only g W W') (h1 : b1 ≠ g) (h2 : b2 ≠ g) (h3 : b3 ≠ g) (h4 : b4 ≠ g) (h5 : b5 ≠ g) (h6 : b6 ≠ g) (h7 : b7 ≠ g) (h8 : b8 ≠ g) (h9 : b9 ≠ g) (h10 : b10 ≠ g) : Cn10 b1 o1 v1 b2 o2 v2 b3 o3 v3 b4 o4 v4 b5 o5 v5 b6 o6 v6 b7 o7 v7 b8 o8 v8 b9 o9 v9 b10 o10 v10 W' := ⟨cell_only h.1 hg h1, cell_only h.2.1 hg h2, cell_only h.2.2.1 hg h3, cell_only h.2.2.2.1 hg h4, cell_only h.2.2.2.2.1 hg h5, cell_only h.2.2.2.2.2.1 hg h6, cell_only h.2.2.2.2.2.2.1 hg h7, cell_only h.2.2.2.2.2.2.2.1 hg h8, cell_only h.2.2.2.2.2.2.2.2.1 hg h9, cell_only h.2.2.2.2.2.2.2.2.2 hg h10⟩
end
end Go.Proofs.YtnbcaklnpflihaaGreatDoor

namespace Go.Proofs.YtnbcaklnpflihaaGreatDoor
open Go.RowKit
set_option maxRecDepth 100000

abbrev Cn18 (b1 o1 : Nat) (v1 : Value) (b2 o2 : Nat) (v2 : Value) (b3 o3 : Nat) (v3 : Value) (b4 o4 : Nat) (v4 : Value) (b5 o5 : Nat) (v5 : Value) (b6 o6 : Nat) (v6 : Value) (b7 o7 : Nat) (v7 : Value) (b8 o8 : Nat) (v8 : Value) (b9 o9 : Nat) (v9 : Value) (b10 o10 : Nat) (v10 : Value) (b11 o11 : Nat) (v11 : Value) (b12 o12 : Nat) (v12 : Value) (b13 o13 : Nat) (v13 : Value) (b14 o14 : Nat) (v14 : Value) (b15 o15 : Nat) (v15 : Value) (b16 o16 : Nat) (v16 : Value) (b17 o17 : Nat) (v17 : Value) (b18 o18 : Nat) (v18 : Value) (W : World) : Prop := W.cell? ⟨b1, o1, none⟩ = some v1 ∧ W.cell? ⟨b2, o2, none⟩ = some v2 ∧ W.cell? ⟨b3, o3, none⟩ = some v3 ∧ W.cell? ⟨b4, o4, none⟩ = some v4 ∧ W.cell? ⟨b5, o5, none⟩ = some v5 ∧ W.cell? ⟨b6, o6, none⟩ = some v6 ∧ W.cell? ⟨b7, o7, none⟩ = some v7 ∧ W.cell? ⟨b8, o8, none⟩ = some v8 ∧ W.cell? ⟨b9, o9, none⟩ = some v9 ∧ W.cell? ⟨b10, o10, none⟩ = some v10 ∧ W.cell? ⟨b11, o11, none⟩ = some v11 ∧ W.cell? ⟨b12, o12, none⟩ = some v12 ∧ W.cell? ⟨b13, o13, none⟩ = some v13 ∧ W.cell? ⟨b14, o14, none⟩ = some v14 ∧ W.cell? ⟨b15, o15, none⟩ = some v15 ∧ W.cell? ⟨b16, o16, none⟩ = some v16 ∧ W.cell? ⟨b17, o17, none⟩ = some v17 ∧ W.cell? ⟨b18, o18, none⟩ = some v18
section
variable {b1 o1 b2 o2 b3 o3 b4 o4 b5 o5 b6 o6 b7 o7 b8 o8 b9 o9 b10 o10 b11 o11 b12 o12 b13 o13 b14 o14 b15 o15 b16 o16 b17 o17 b18 o18 : Nat} {v1 v2 v3 v4 v5 v6 v7 v8 v9 v10 v11 v12 v13 v14 v15 v16 v17 v18 : Value} {W W' : World}
theorem Cn18.later (h : Cn18 b1 o1 v1 b2 o2 v2 b3 o3 v3 b4 o4 v4 b5 o5 v5 b6 o6 v6 b7 o7 v7 b8 o8 v8 b9 o9 v9 b10 o10 v10 b11 o11 v11 b12 o12 v12 b13 o13 v13 b14 o14 v14 b15 o15 v15 b16 o16 v16 b17 o17 v17 b18 o18 v18 W) (hb : Below W.heap.size W W') : Cn18 b1 o1 v1 b2 o2 v2 b3 o3 v3 b4 o4 v4 b5 o5 v5 b6 o6 v6 b7 o7 v7 b8 o8 v8 b9 o9 v9 b10 o10 v10 b11 o11 v11 b12 o12 v12 b13 o13 v13 b14 o14 v14 b15 o15 v15 b16 o16 v16 b17 o17 v17 b18 o18 v18 W' := ⟨cell_later hb h.1, cell_later hb h.2.1, cell_later hb h.2.2.1, cell_later hb h.2.2.2.1, cell_later hb h.2.2.2.2.1, cell_later hb h.2.2.2.2.2.1, cell_later hb h.2.2.2.2.2.2.1, cell_later hb h.2.2.2.2.2.2.2.1, cell_later hb h.2.2.2.2.2.2.2.2.1, cell_later hb h.2.2.2.2.2.2.2.2.2.1, cell_later hb h.2.2.2.2.2.2.2.2.2.2.1, cell_later hb h.2.2.2.2.2.2.2.2.2.2.2.1, cell_later hb h.2.2.2.2.2.2.2.2.2.2.2.2.1, cell_later hb h.2.2.2.2.2.2.2.2.2.2.2.2.2.1, cell_later hb h.2.2.2.2.2.2.2.2.2.2.2.2.2.2.1, cell_later hb h.2.2.2.2.2.2.2.2.2.2.2.2.2.2.2.1, cell_later hb h.2.2.2.2.2.2.2.2.2.2.2.2.2.2.2.2.1, cell_later hb h.2.2.2.2.2.2.2.2.2.2.2.2.2.2.2.2.2⟩
theorem Cn18.alloc (h : Cn18 b1 o1 v1 b2 o2 v2 b3 o3 v3 b4 o4 v4 b5 o5 v5 b6 o6 v6 b7 o7 v7 b8 o8 v8 b9 o9 v9 b10 o10 v10 b11 o11 v11 b12 o12 v12 b13 o13 v13 b14 o14 v14 b15 o15 v15 b16 o16 v16 b17 o17 v17 b18 o18 v18 W) (o : Obj) : Cn18 b1 o1 v1 b2 o2 v2 b3 o3 v3 b4 o4 v4 b5 o5 v5 b6 o6 v6 b7 o7 v7 b8 o8 v8 b9 o9 v9 b10 o10 v10 b11 o11 v11 b12 o12 v12 b13 o13 v13 b14 o14 v14 b15 o15 v15 b16 o16 v16 b17 o17 v17 b18 o18 v18 (W.alloc o) := ⟨cell_alloc_of h.1 o, cell_alloc_of h.2.1 o, cell_alloc_of h.2.2.1 o, cell_alloc_of h.2.2.2.1 o, cell_alloc_of h.2.2.2.2.1 o, cell_alloc_of h.2.2.2.2.2.1 o, cell_alloc_of h.2.2.2.2.2.2.1 o, cell_alloc_of h.2.2.2.2.2.2.2.1 o, cell_alloc_of h.2.2.2.2.2.2.2.2.1 o, cell_alloc_of h.2.2.2.2.2.2.2.2.2.1 o, cell_alloc_of h.2.2.2.2.2.2.2.2.2.2.1 o, cell_alloc_of h.2.2.2.2.2.2.2.2.2.2.2.1 o, cell_alloc_of h.2.2.2.2.2.2.2.2.2.2.2.2.1 o, cell_alloc_of h.2.2.2.2.2.2.2.2.2.2.2.2.2.1 o, cell_alloc_of h.2.2.2.2.2.2.2.2.2.2.2.2.2.2.1 o, cell_alloc_of h.2.2.2.2.2.2.2.2.2.2.2.2.2.2.2.1 o, cell_alloc_of h.2.2.2.2.2.2.2.2.2.2.2.2.2.2.2.2.1 o, cell_alloc_of h.2.2.2.2.2.2.2.2.2.2.2.2.2.2.2.2.2 o⟩
theorem Cn18.drew (h : Cn18 b1 o1 v1 b2 o2 v2 b3 o3 v3 b4 o4 v4 b5 o5 v5 b6 o6 v6 b7 o7 v7 b8 o8 v8 b9 o9 v9 b10 o10 v10 b11 o11 v11 b12 o12 v12 b13 o13 v13 b14 o14 v14 b15 o15 v15 b16 o16 v16 b17 o17 v17 b18 o18 v18 W) : Cn18 b1 o1 v1 b2 o2 v2 b3 o3 v3 b4 o4 v4 b5 o5 v5 b6 o6 v6 b7 o7 v7 b8 o8 v8 b9 o9 v9 b10 o10 v10 b11 o11 v11 b12 o12 v12 b13 o13 v13 b14 o14 v14 b15 o15 v15 b16 o16 v16 b17 o17 v17 b18 o18 v18 W.drew := h
theorem Cn18.set {c i : Nat} (h : Cn18 b1 o1 v1 b2 o2 v2 b3 o3 v3 b4 o4 v4 b5 o5 v5 b6 o6 v6 b7 o7 v7 b8 o8 v8 b9 o9 v9 b10 o10 v10 b11 o11 v11 b12 o12 v12 b13 o13 v13 b14 o14 v14 b15 o15 v15 b16 o16 v16 b17 o17 v17 b18 o18 v18 W) (h1 : b1 ≠ c) (h2 : b2 ≠ c) (h3 : b3 ≠ c) (h4 : b4 ≠ c) (h5 : b5 ≠ c) (h6 : b6 ≠ c) (h7 : b7 ≠ c) (h8 : b8 ≠ c) (h9 : b9 ≠ c) (h10 : b10 ≠ c) (h11 : b11 ≠ c) (h12 : b12 ≠ c) (h13 : b13 ≠ c) (h14 : b14 ≠ c) (h15 : b15 ≠ c) (h16 : b16 ≠ c) (h17 : b17 ≠ c) (h18 : b18 ≠ c) (u : Value) : Cn18 b1 o1 v1 b2 o2 v2 b3 o3 v3 b4 o4 v4 b5 o5 v5 b6 o6 v6 b7 o7 v7 b8 o8 v8 b9 o9 v9 b10 o10 v10 b11 o11 v11 b12 o12 v12 b13 o13 v13 b14 o14 v14 b15 o15 v15 b16 o16 v16 b17 o17 v17 b18 o18 v18 (W.setCell ⟨c, i, none⟩ u) := ⟨cell_set_other h.1 h1 u, cell_set_other h.2.1 h2 u, cell_set_other h.2.2.1 h3 u, cell_set_other h.2.2.2.1 h4 u, cell_set_other h.2.2.2.2.1 h5 u, cell_set_other h.2.2.2.2.2.1 h6 u, cell_set_other h.2.2.2.2.2.2.1 h7 u, cell_set_other h.2.2.2.2.2.2.2.1 h8 u, cell_set_other h.2.2.2.2.2.2.2.2.1 h9 u, cell_set_other h.2.2.2.2.2.2.2.2.2.1 h10 u, cell_set_other h.2.2.2.2.2.2.2.2.2.2.1 h11 u, cell_set_other h.2.2.2.2.2.2.2.2.2.2.2.1 h12 u, cell_set_other h.2.2.2.2.2.2.2.2.2.2.2.2.1 h13 u, cell_set_other h.2.2.2.2.2.2.2.2.2.2.2.2.2.1 h14 u, cell_set_other h.2.2.2.2.2.2.2.2.2.2.2.2.2.2.1 h15 u, cell_set_other h.2.2.2.2.2.2.2.2.2.2.2.2.2.2.2.1 h16 u, cell_set_other h.2.2.2.2.2.2.2.2.2.2.2.2.2.2.2.2.1 h17 u, cell_set_other h.2.2.2.2.2.2.2.2.2.2.2.2.2.2.2.2.2 h18 u⟩
theorem Cn18.grown {x : Value} (h : Cn18 b1 o1 v1 b2 o2 v2 b3 o3 v3 b4 o4 v4 b5 o5 v5 b6 o6 v6 b7 o7 v7 b8 o8 v8 b9 o9 v9 b10 o10 v10 b11 o11 v11 b12 o12 v12 b13 o13 v13 b14 o14 v14 b15 o15 v15 b16 o16 v16 b17 o17 v17 b18 o18 v18 W) (hg : W.grownBy W' x.ownBlock) (h1 : some b1 ≠ x.ownBlock) (h2 : some b2 ≠ x.ownBlock) (h3 : some b3 ≠ x.ownBlock) (h4 : some b4 ≠ x.ownBlock) (h5 : some b5 ≠ x.ownBlock) (h6 : some b6 ≠ x.ownBlock) (h7 : some b7 ≠ x.ownBlock) (h8 : some b8 ≠ x.ownBlock) (h9 : some b9 ≠ x.ownBlock) (h10 : some b10 ≠ x.ownBlock) (h11 : some b11 ≠ x.ownBlock) (h12 : some b12 ≠ x.ownBlock) (h13 : some b13 ≠ x.ownBlock) (h14 : some b14 ≠ x.ownBlock) (h15 : some b15 ≠ x.ownBlock) (h16 : some b16 ≠ x.ownBlock) (h17 : some b17 ≠ x.ownBlock) (h18 : some b18 ≠ x.ownBlock) : Cn18 b1 o1 v1 b2 o2 v2 b3 o3 v3 b4 o4 v4 b5 o5 v5 b6 o6 v6 b7 o7 v7 b8 o8 v8 b9 o9 v9 b10 o10 v10 b11 o11 v11 b12 o12 v12 b13 o13 v13 b14 o14 v14 b15 o15 v15 b16 o16 v16 b17 o17 v17 b18 o18 v18 W' := ⟨cell_grown h.1 hg h1, cell_grown h.2.1 hg h2, cell_grown h.2.2.1 hg h3, cell_grown h.2.2.2.1 hg h4, cell_grown h.2.2.2.2.1 hg h5, cell_grown h.2.2.2.2.2.1 hg h6, cell_grown h.2.2.2.2.2.2.1 hg h7, cell_grown h.2.2.2.2.2.2.2.1 hg h8, cell_grown h.2.2.2.2.2.2.2.2.1 hg h9, cell_grown h.2.2.2.2.2.2.2.2.2.1 hg h10, cell_grown h.2.2.2.2.2.2.2.2.2.2.1 hg h11, cell_grown h.2.2.2.2.2.2.2.2.2.2.2.1 hg h12, cell_grown h.2.2.2.2.2.2.2.2.2.2.2.2.1 hg h13, cell_grown h.2.2.2.2.2.2.2.2.2.2.2.2.2.1 hg h14, cell_grown h.2.2.2.2.2.2.2.2.2.2.2.2.2.2.1 hg h15, cell_grown h.2.2.2.2.2.2.2.2.2.2.2.2.2.2.2.1 hg h16, cell_grown h.2.2.2.2.2.2.2.2.2.2.2.2.2.2.2.2.1 hg h17, cell_grown h.2.2.2.2.2.2.2.2.2.2.2.2.2.2.2.2.2 hg h18⟩
theorem Cn18.only {g : Nat} (h : Cn18 b1 o1 v1 b2 o2 v2 b3 o3 v3 b4 o4 v4 b5 o5 v5 b6 o6 v6 b7 o7 v7 b8 o8 v8 b9 o9 v9 b10 o10 v10 b11 o11 v11 b12 o12 v12 b13 o13 v13 b14 o14 v14 b15 o15 v15 b16 o16 v16 b17 o17 v17 b18 o18 v18 W) (hg : Only g W W') (h1 : b1 ≠ g) (h2 : b2 ≠ g) (h3 : b3 ≠ g) (h4 : b4 ≠ g) (h5 : b5 ≠ g) (h6 : b6 ≠ g) (h7 : b7 ≠ g) (h8 : b8 ≠ g) (h9 : b9 ≠ g) (h10 : b10 ≠ g) (h11 : b11 ≠ g) (h12 : b12 ≠ g) (h13 : b13 ≠ g) (h14 : b14 ≠ g) (h15 : b15 ≠ g) (h16 : b16 ≠ g) (h17 : b17 ≠ g) (h18 : b18 ≠ g) : Cn18 b1 o1 v1 b2 o2 v2 b3 o3 v3 b4 o4 v4 b5 o5 v5 b6 o6 v6 b7 o7 v7 b8 o8 v8 b9 o9 v9 b10 o10 v10 b11 o11 v11 b12 o12 v12 b13 o13 v13 b14 o14 v14 b15 o15 v15 b16 o16 v16 b17 o17 v17 b18 o18 v18 W' := ⟨cell_only h.1 hg h1, cell_only h.2.1 hg h2, cell_only h.2.2.1 hg h3, cell_only h.2.2.2.1 hg h4, cell_only h.2.2.2.2.1 hg h5, cell_only h.2.2.2.2.2.1 hg h6, cell_only h.2.2.2.2.2.2.1 hg h7, cell_only h.2.2.2.2.2.2.2.1 hg h8, cell_only h.2.2.2.2.2.2.2.2.1 hg h9, cell_only h.2.2.2.2.2.2.2.2.2.1 hg h10, cell_only h.2.2.2.2.2.2.2.2.2.2.1 hg h11, cell_only h.2.2.2.2.2.2.2.2.2.2.2.1 hg h12, cell_only h.2.2.2.2.2.2.2.2.2.2.2.2.1 hg h13, cell_only h.2.2.2.2.2.2.2.2.2.2.2.2.2.1 hg h14, cell_only h.2.2.2.2.2.2.2.2.2.2.2.2.2.2.1 hg h15, cell_only h.2.2.2.2.2.2.2.2.2.2.2.2.2.2.2.1 hg h16, cell_only h.2.2.2.2.2.2.2.2.2.2.2.2.2.2.2.2.1 hg h17, cell_only h.2.2.2.2.2.2.2.2.2.2.2.2.2.2.2.2.2 hg h18⟩
end
end Go.Proofs.YtnbcaklnpflihaaGreatDoor

namespace Go.Proofs.YtnbcaklnpflihaaGreatDoor
open Go.RowKit
set_option maxRecDepth 100000

set_option maxHeartbeats 4000000 in
theorem r2SameS_walk (A A' : Option Addr) (zs : List ByteArray) (c c' : Nat) (w : World) (hn : zs.length ≤ 9223372036854775807) (h1 : At kStr AnyB w A zs) (h2 : At kStr AnyB w A' zs) :
    Calls Tryz.prog 21 #[.slice A zs.length c, .slice A' zs.length c'] w fun e w' => e = .returned (.bool true) ∧ Below w.heap.size w w' := by
  obtain ⟨n, hnn⟩ : ∃ n, zs.length = n := ⟨_, rfl⟩
  rw [hnn] at hn ⊢
  replace hnn := hide hnn
  go_enter Tryz.func21, Tryz.ntmps21
  go_wp2
  go_loopw [5] (fun i wr => ∃ j : Nat, j ≤ n ∧ i = .int .i64 j ∧ Below w.heap.size w wr) (fun i _ => n - (intOf i).toNat)
  case atStart => exact ⟨0, Nat.zero_le _, rfl, Below.refl _ _⟩
  case round =>
    obtain ⟨j, hj, rfl, hb⟩ := hrel
    by_cases hlt : j < n
    · obtain ⟨z, hz⟩ : ∃ z, zs[j]? = some z := ⟨_, List.getElem?_eq_getElem (by rw [hnn.out]; exact hlt)⟩
      obtain ⟨b1, o1, rfl, -, hb1, a0⟩ := (h1.later hb).str hz
      obtain ⟨b2, o2, rfl, -, hb2, e0⟩ := (h2.later hb).str hz
      have hj0 : (0 : Int) ≤ (j : Int) := by omega
      have hj1 : (j : Int) < (n : Int) := by omega
      clear h1 h2 hz
      go_wp2_with fail
      go_region
      all_goals
        go_wp2
        go_roundw
        case rel => exact ⟨j + 1, by omega, by go_num, by first | exact ext_drew hb | exact hb⟩
        case measure => simp [intOf]; omega
    · obtain rfl : j = n := by omega
      go_wp2
      go_ret
      exact ⟨rfl, hb⟩
-- <sameL>
set_option maxHeartbeats 8000000 in
theorem r2SameL_walk (A A' : Option Addr) (xs : List (List ByteArray)) (c c' : Nat) (w : World) (hn : xs.length ≤ 9223372036854775807) (hm : ∀ x ∈ xs, x.length ≤ 9223372036854775807) (h1 : At (kSlice kStr) AnyB w A xs) (h2 : At (kSlice kStr) AnyB w A' xs) :
    Calls Tryz.prog 14 #[.slice A xs.length c, .slice A' xs.length c'] w fun e w' => e = .returned (.bool true) ∧ Below w.heap.size w w' := by
  obtain ⟨n, hnn⟩ : ∃ n, xs.length = n := ⟨_, rfl⟩
  rw [hnn] at hn ⊢
  replace hnn := hide hnn
  replace hm := hide hm
  go_enter Tryz.func14, Tryz.ntmps14
  go_wp2
  go_loopw [5] (fun i wr => ∃ j : Nat, j ≤ n ∧ i = .int .i64 j ∧ Below w.heap.size w wr) (fun i _ => n - (intOf i).toNat)
  case atStart => exact ⟨0, Nat.zero_le _, rfl, Below.refl _ _⟩
  case round =>
    obtain ⟨j, hj, rfl, hb⟩ := hrel
    by_cases hlt : j < n
    · obtain ⟨x, hx⟩ : ∃ x, xs[j]? = some x := ⟨_, List.getElem?_eq_getElem (by rw [hnn.out]; exact hlt)⟩
      have hxl := hm.out x (List.mem_of_getElem? hx)
      obtain ⟨b1, o1, F1, c1, rfl, -, hb1, a0, -, t1⟩ := (h1.later hb).slice hx
      obtain ⟨b2, o2, F2, c2, rfl, -, hb2, e0, -, t2⟩ := (h2.later hb).slice hx
      have hj0 : (0 : Int) ≤ (j : Int) := by omega
      have hj1 : (j : Int) < (n : Int) := by omega
      have hSL : Cn2 b1 (o1 + j) (.slice F1 x.length c1) b2 (o2 + j) (.slice F2 x.length c2) wr := ⟨a0, e0⟩
      have hcall := hide (fun (W : World) (hW : Below wr.heap.size wr W) => (r2SameS_walk F1 F2 x c1 c2 W hxl (t1.later hW) (t2.later hW)).mono fun _ _ ⟨he, hb⟩ => (⟨he, ext_trans hW hb, hSL.later (ext_trans hW hb)⟩ : _ ∧ Below wr.heap.size wr _ ∧ Cn2 b1 (o1 + j) (.slice F1 x.length c1) b2 (o2 + j) (.slice F2 x.length c2) _))
      have hSd := hSL.drew
      have hrefl := Below.refl wr.heap.size wr
      clear h1 h2 hx t1 t2
      go_wp2_with fail
      go_region_held3 (fun W' => W'.cell? ⟨b1, o1 + j, none⟩ = some (.slice F1 x.length c1) ∧ W'.cell? ⟨b2, o2 + j, none⟩ = some (.slice F2 x.length c2)) (first | ((repeat (first | (with_reducible assumption) | (with_reducible refine Cn2.alloc ?_ _) | (with_reducible refine Cn2.drew ?_) | (with_reducible refine Cn2.set ?_ ?_ ?_ _) | omega)); done)) (first | (go_at_call 21; refine (hcall.out _ (by repeat (first | (with_reducible assumption) | (with_reducible refine ext_alloc ?_ _) | (with_reducible refine ext_drew ?_)))).mono ?_; rintro e w2 ⟨rfl, hb2, hc2⟩))
      all_goals
        have hbn := ext_trans hb hb2
        go_wp2
        go_roundw
        case rel => exact ⟨j + 1, by omega, by go_num, by first | exact ext_drew hbn | exact hbn⟩
        case measure => simp [intOf]; omega
    · obtain rfl : j = n := by omega
      go_wp2
      go_ret
      exact ⟨rfl, hb⟩
-- </sameL>
end Go.Proofs.YtnbcaklnpflihaaGreatDoor
